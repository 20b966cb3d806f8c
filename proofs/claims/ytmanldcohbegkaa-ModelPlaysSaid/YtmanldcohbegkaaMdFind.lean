/-
  The model: IndexFunc over its row; find.
-/
import Derived.Test.YtmanldcohbegkaaMdBase
import Derived.BigQuiet
import Derived.LaidEqlPtr
import Derived.WalkSmall
namespace Go.Proofs.Ytmanldcohbegkaa
open Go.RowKit
set_option linter.unusedVariables false
set_option linter.unusedSimpArgs false

def Mo.find (S : Mo) (id : Int) : Option Nat := S.vols.findIdx? fun v => v.id == id
def ptrOf (ps : List (Nat × Nat)) (o : Option Nat) : Option Addr := o.bind fun i => ps[i]?.map fun p => ⟨p.1, 0, none⟩
/-- The first place at which something holds, or -1. -/
def firstAt {α : Type} (p : α → Bool) (l : List α) : Int := match l.findIdx? p with | some i => (i : Int) | none => -1
theorem firstAt_some {α : Type} {p : α → Bool} {l : List α} {k : Nat} {e : α} (he : l[k]? = some e) (hp : p e = true) (hno : ∀ j, j < k → ∀ x, l[j]? = some x → p x = false) : firstAt p l = (k : Int) := by
  have : l.findIdx? p = some k := by
    rw [List.findIdx?_eq_some_iff_getElem]
    obtain ⟨hlt, rfl⟩ := List.getElem?_eq_some_iff.1 he
    exact ⟨hlt, hp, fun j hj => by simp [hno j hj l[j] (List.getElem?_eq_getElem (by omega))]⟩
  unfold firstAt; rw [this]
theorem firstAt_none {α : Type} {p : α → Bool} {l : List α} (hno : ∀ j, j < l.length → ∀ x, l[j]? = some x → p x = false) : firstAt p l = -1 := by
  have : l.findIdx? p = none := by
    rw [List.findIdx?_eq_none_iff]
    intro x hx
    obtain ⟨j, hj, rfl⟩ := List.mem_iff_getElem.1 hx
    exact hno j hj _ (List.getElem?_eq_getElem hj)
  unfold firstAt; rw [this]

set_option maxRecDepth 100000 in
set_option maxHeartbeats 1600000 in
theorem clo_find (p cb : Nat) (x id : Int) (w : World) (hx : w.cell? ⟨p, 0, none⟩ = some (.int .i64 x)) (hc : w.cell? ⟨cb, 0, none⟩ = some (.int .i64 id)) :
    Calls Try.prog 54 #[.pointer (some ⟨p, 0, none⟩), .pointer (some ⟨cb, 0, none⟩)] w fun r w' => r = .returned (.bool (x == id)) ∧ Below w.heap.size w w' := by
  go_enter Try.func54, Try.ntmps54
  go_wp2_with fail
  go_quiet (fail)
  go_wp2
  go_ret
  exact ⟨rfl, below_drewN (Below.refl _ _) _⟩
set_option maxRecDepth 100000 in
set_option maxHeartbeats 1600000 in
theorem clo_del (p cb t : Nat) (c d : Array Value) (S T : TypeId) (w : World) (hc : w.cell? ⟨cb, 0, none⟩ = some (.pointer (some ⟨t, 0, none⟩))) (hp : w.heap[p]? = some (.cells c S (0, 0))) (ht : w.heap[t]? = some (.cells d T (0, 0))) :
    Calls Try.prog 38 #[.pointer (some ⟨p, 0, none⟩), .pointer (some ⟨cb, 0, none⟩)] w fun r w' => r = .returned (.bool (p == t)) ∧ Below w.heap.size w w' := by
  obtain ⟨j, hj, hz⟩ : ∃ j, Try.prog.info? 66 = some j ∧ j.size ≠ 0 := by
    have : (Try.prog.info? 66).map (·.size) = some 4 := by kernel_rfl
    cases hi : Try.prog.info? 66 with
    | none => rw [hi] at this; cases this
    | some j => rw [hi] at this; simp at this; exact ⟨j, rfl, by omega⟩
  have hq : (binOp .eql 63 (.pointer (some ⟨p, 0, none⟩)) (.pointer (some ⟨t, 0, none⟩))).run Try.prog w = .ok (.bool (p == t)) w := by
    by_cases e : p = t
    · subst e
      rw [run_eql_ptr_same w _ Try.underlying63 hj]
      simp
    · rw [run_eql_ptr_other w Try.underlying63 hj hz (by simp [e]) hp ht]
      simp [e]
  go_enter Try.func38, Try.ntmps38
  go_wp2
  go_ret
  exact ⟨rfl, Below.refl _ _⟩

set_option maxRecDepth 100000 in
set_option maxHeartbeats 1600000 in
theorem index_find (n cap g cb : Nat) (ps : List (Nat × Nat)) (f : Nat × Nat → Bool) (w : World) (hg : w.heap[g]? ≠ none) (hrow : ∀ W, Below w.heap.size w W → ∀ k p, ps[k]? = some p → W.cell? ⟨g, k, none⟩ = some (.pointer (some ⟨p.1, 0, none⟩))) (hn1 : n ≤ ps.length) (hn2 : ps.length ≤ n)
    (hclo : ∀ p ∈ ps, ∀ W, Below w.heap.size w W → Calls Try.prog 54 #[.pointer (some ⟨p.1, 0, none⟩), .pointer (some ⟨cb, 0, none⟩)] W fun r w' => r = .returned (.bool (f p)) ∧ Below W.heap.size W w') (hlen : n ≤ 8) :
    Calls Try.prog 53 #[.slice (some ⟨g, 0, none⟩) n cap, .func (.func 54) #[] #[.pointer (some ⟨cb, 0, none⟩)]] w fun r w' => r = .returned (.int .i64 (firstAt f ps)) ∧ Below w.heap.size w w' := by
  have HR := Lib.hid hrow; clear hrow
  have HC := Lib.hid hclo; clear hclo
  have HG := Lib.hid hg; clear hg
  go_enter Try.func53, Try.ntmps53
  go_wp2_with fail
  go_loopw [8] (fun i wr => ∃ k : Nat, k ≤ n ∧ i = .int .i64 k ∧ Below w.heap.size w wr ∧ ∀ j, j < k → ∀ e, ps[j]? = some e → f e = false) (fun i _ => n - (intOf i).toNat)
  case atStart => exact ⟨0, by omega, rfl, Below.refl _ _, fun j hj => by omega⟩
  case round =>
    obtain ⟨k, hk, rfl, hbel, hno⟩ := hrel
    have HB := Lib.hid hbel; clear hbel
    have HN := Lib.hid hno; clear hno
    by_cases hlt : k < n
    · obtain ⟨e, he⟩ : ∃ e, ps[k]? = some e := ⟨ps[k]'(by omega), by simp [show k < ps.length by omega]⟩
      have hcell := HR.out wr HB.out k e he
      have HE := Lib.hid he; clear he
      have hcl := Lib.hid (HC.out e (List.mem_of_getElem? HE.out) wr HB.out)
      have hsz := HB.out.size
      have hkn : (k : Int) < (n : Int) := by omega
      have hk0 : (0 : Int) ≤ (k : Int) := by omega
      by_cases hp : f e = true
      · rw [hp] at hcl
        go_wp2_with (go_at_call 54; refine hcl.out.mono ?_; rintro r w1 ⟨rfl, hb1⟩)
        go_ret
        exact ⟨by rw [firstAt_some HE.out hp HN.out]; rfl, HB.out.trans (hb1.mono (by omega))⟩
      · rw [Bool.not_eq_true] at hp
        rw [hp] at hcl
        go_wp2_with (go_at_call 54; refine hcl.out.mono ?_; rintro r w1 ⟨rfl, hb1⟩)
        go_roundw
        case rel =>
          refine ⟨k + 1, by omega, by go_num, HB.out.trans (hb1.mono (by omega)), fun j hj x hx => ?_⟩
          by_cases hjk : j = k
          · subst hjk
            rw [HE.out] at hx
            injection hx with hx
            rw [← hx]; exact hp
          · exact HN.out j (by omega) x hx
        case measure => simp [intOf]; omega
    · obtain rfl : k = n := by omega
      have hkk : ¬ (k : Int) < (k : Int) := by omega
      go_wp2
      go_ret
      exact ⟨by rw [firstAt_none (fun j hj => HN.out j (by omega))]; rfl, HB.out⟩
set_option maxRecDepth 100000 in
set_option maxHeartbeats 1600000 in
theorem index_find_nil (fv : Value) (w : World) : Calls Try.prog 53 #[.slice none 0 0, fv] w fun r w' => r = .returned (.int .i64 (-1)) ∧ Below w.heap.size w w' := by
  go_enter Try.func53, Try.ntmps53
  go_wp2_with fail
  go_loopw [8] (fun i wr => i = .int .i64 0 ∧ Below w.heap.size w wr) (fun i _ => 0)
  case atStart => exact ⟨rfl, Below.refl _ _⟩
  case round =>
    obtain ⟨rfl, hbel⟩ := hrel
    go_wp2
    go_ret
    exact ⟨rfl, hbel⟩

set_option maxRecDepth 100000 in
set_option maxHeartbeats 1600000 in
theorem index_del (n cap g cb : Nat) (ps : List (Nat × Nat)) (f : Nat × Nat → Bool) (w : World) (hg : w.heap[g]? ≠ none) (hrow : ∀ W, Below w.heap.size w W → ∀ k p, ps[k]? = some p → W.cell? ⟨g, k, none⟩ = some (.pointer (some ⟨p.1, 0, none⟩))) (hn1 : n ≤ ps.length) (hn2 : ps.length ≤ n)
    (hclo : ∀ p ∈ ps, ∀ W, Below w.heap.size w W → Calls Try.prog 38 #[.pointer (some ⟨p.1, 0, none⟩), .pointer (some ⟨cb, 0, none⟩)] W fun r w' => r = .returned (.bool (f p)) ∧ Below W.heap.size W w') (hlen : n ≤ 8) :
    Calls Try.prog 53 #[.slice (some ⟨g, 0, none⟩) n cap, .func (.func 38) #[] #[.pointer (some ⟨cb, 0, none⟩)]] w fun r w' => r = .returned (.int .i64 (firstAt f ps)) ∧ Below w.heap.size w w' := by
  have HR := Lib.hid hrow; clear hrow
  have HC := Lib.hid hclo; clear hclo
  have HG := Lib.hid hg; clear hg
  go_enter Try.func53, Try.ntmps53
  go_wp2_with fail
  go_loopw [8] (fun i wr => ∃ k : Nat, k ≤ n ∧ i = .int .i64 k ∧ Below w.heap.size w wr ∧ ∀ j, j < k → ∀ e, ps[j]? = some e → f e = false) (fun i _ => n - (intOf i).toNat)
  case atStart => exact ⟨0, by omega, rfl, Below.refl _ _, fun j hj => by omega⟩
  case round =>
    obtain ⟨k, hk, rfl, hbel, hno⟩ := hrel
    have HB := Lib.hid hbel; clear hbel
    have HN := Lib.hid hno; clear hno
    by_cases hlt : k < n
    · obtain ⟨e, he⟩ : ∃ e, ps[k]? = some e := ⟨ps[k]'(by omega), by simp [show k < ps.length by omega]⟩
      have hcell := HR.out wr HB.out k e he
      have HE := Lib.hid he; clear he
      have hcl := Lib.hid (HC.out e (List.mem_of_getElem? HE.out) wr HB.out)
      have hsz := HB.out.size
      have hkn : (k : Int) < (n : Int) := by omega
      have hk0 : (0 : Int) ≤ (k : Int) := by omega
      by_cases hp : f e = true
      · rw [hp] at hcl
        go_wp2_with (go_at_call 38; refine hcl.out.mono ?_; rintro r w1 ⟨rfl, hb1⟩)
        go_ret
        exact ⟨by rw [firstAt_some HE.out hp HN.out]; rfl, HB.out.trans (hb1.mono (by omega))⟩
      · rw [Bool.not_eq_true] at hp
        rw [hp] at hcl
        go_wp2_with (go_at_call 38; refine hcl.out.mono ?_; rintro r w1 ⟨rfl, hb1⟩)
        go_roundw
        case rel =>
          refine ⟨k + 1, by omega, by go_num, HB.out.trans (hb1.mono (by omega)), fun j hj x hx => ?_⟩
          by_cases hjk : j = k
          · subst hjk
            rw [HE.out] at hx
            injection hx with hx
            rw [← hx]; exact hp
          · exact HN.out j (by omega) x hx
        case measure => simp [intOf]; omega
    · obtain rfl : k = n := by omega
      have hkk : ¬ (k : Int) < (k : Int) := by omega
      go_wp2
      go_ret
      exact ⟨by rw [firstAt_none (fun j hj => HN.out j (by omega))]; rfl, HB.out⟩

theorem ptrs_get {ps : List (Nat × Nat)} {k : Nat} {p : Nat × Nat} (h : ps[k]? = some p) : (ptrs ps)[k]? = some (.pointer (some ⟨p.1, 0, none⟩)) := by simp [ptrs, h]
theorem ModelIs.rowForm [Zs] {w : World} {m : Nat} {rv : Value} {ps : List (Nat × Nat)} {S : Mo} (h : ModelIs w m rv ps S) : (rv = .slice none 0 0 ∧ ps = []) ∨ ∃ g cap, rv = .slice (some ⟨g, 0, none⟩) ps.length cap ∧ g < w.heap.size ∧ ps.length ≤ cap := by
  rcases h.row.2 with ⟨e, h0⟩ | ⟨g, cap, cur, e, _, hg, hc, _⟩
  · exact .inl ⟨e, List.eq_nil_of_length_eq_zero h0⟩
  · exact .inr ⟨g, cap, e, (Array.getElem?_eq_some_iff.1 hg).1, hc⟩
theorem ModelIs.rowCell [Zs] {w : World} {m : Nat} {rv : Value} {ps : List (Nat × Nat)} {S : Mo} (h : ModelIs w m rv ps S) {g cap n : Nat} (e : rv = .slice (some ⟨g, 0, none⟩) n cap) {k : Nat} {p : Nat × Nat} (hp : ps[k]? = some p) : w.cell? ⟨g, k, none⟩ = some (.pointer (some ⟨p.1, 0, none⟩)) := by
  subst e
  have := World.ownsRow.cells h.row (g := g) rfl k _ (ptrs_get hp)
  rw [Go.WideShapes.add_plain, Nat.zero_add] at this
  exact this
theorem firstAt_map {α β : Type} (f : α → β) (p : β → Bool) (l : List α) : firstAt p (l.map f) = firstAt (fun x => p (f x)) l := by unfold firstAt; rw [List.findIdx?_map]; rfl
theorem firstAt_congr {α β : Type} (p : α → Bool) (q : β → Bool) (l : List α) (r : List β) (hl : l.length = r.length) (h : ∀ (i : Nat) (a : α) (b : β), l[i]? = some a → r[i]? = some b → p a = q b) : l.findIdx? p = r.findIdx? q := by
  induction l generalizing r with
  | nil => cases r with
    | nil => rfl
    | cons => simp at hl
  | cons a l ih => cases r with
    | nil => simp at hl
    | cons b r =>
      have h0 := h 0 a b rfl rfl
      rw [List.findIdx?_cons, List.findIdx?_cons, h0, ih r (by simpa using hl) (fun i x y hx hy => h (i + 1) x y (by simpa using hx) (by simpa using hy))]

set_option maxRecDepth 100000 in
set_option maxHeartbeats 1600000 in
theorem find_any [Zs] (m : Nat) (rv : Value) (ps : List (Nat × Nat)) (S : Mo) (id : Int) (w : World) (h : ModelIs w m rv ps S) (hlen : ps.length ≤ 8) :
    Calls Try.prog 32 #[.pointer (some ⟨m, 0, none⟩), .int .i64 id] w fun r w' => r = .returned (.pointer (ptrOf ps (S.find id))) ∧ Below w.heap.size w w' := by
  have hb1 : Below w.heap.size w (w.alloc (.cells #[.int .i64 id] 3)) := allocBelow w _
  have h1 := h.below hb1
  have hcb : (w.alloc (.cells #[.int .i64 id] 3)).cell? ⟨w.heap.size, 0, none⟩ = some (.int .i64 id) := (CellsAt.new w _ _).cell 0
  have hm := h1.head.cell 0
  have hml := h.head.lt
  rcases h.rowForm with ⟨rfl, rfl⟩ | ⟨g, cap, rfl, hgl, hcap⟩
  · have hS : S.vols = [] := List.eq_nil_of_length_eq_zero h.len.symm
    have hf : S.find id = none := by unfold Mo.find; rw [hS]; rfl
    rw [hf]
    have HI := Lib.hid (index_find_nil (.func (.func 54) #[] #[.pointer (some ⟨w.heap.size, 0, none⟩)]) (w.alloc (.cells #[.int .i64 id] 3)))
    simp only [Mo.cells, List.getElem?_toArray, List.getElem?_cons_zero] at hm
    clear h h1
    go_enter Try.func32, Try.ntmps32
    go_wp2_with (go_at_call 53; refine HI.out.mono ?_; rintro r w1 ⟨rfl, hb2⟩)
    go_ret
    exact ⟨rfl, hb1.trans (hb2.mono (by simp))⟩
  · have hsz : (w.alloc (.cells #[.int .i64 id] 3)).heap.size = w.heap.size + 1 := by simp
    -- the ids of the volumes, as the row has them
    obtain ⟨f, hf⟩ : ∃ f : Nat × Nat → Bool, ∀ (i : Nat) (p : Nat × Nat) (v : Vo), ps[i]? = some p → S.vols[i]? = some v → f p = (v.id == id) := by
      refine ⟨fun p => match w.cell? ⟨p.1, 0, none⟩ with | some (.int .i64 x) => x == id | _ => false, fun i p v hp hv => ?_⟩
      have := (h.vol i p v hp hv).str.cell 0
      simp only [Vo.cells, List.getElem?_toArray, List.getElem?_cons_zero] at this
      show (match w.cell? ⟨p.1, 0, none⟩ with | some (.int .i64 x) => x == id | _ => false) = _
      rw [this]
    have hidx : S.find id = ps.findIdx? f := (firstAt_congr f _ ps S.vols h.len hf).symm
    have HI := Lib.hid (index_find ps.length cap g w.heap.size ps f (w.alloc (.cells #[.int .i64 id] 3)) (by rw [Below.heap_alloc _ _ _ hgl, Array.getElem?_eq_getElem hgl]; simp)
      (fun W hW k p hp => (hW.cell (p := ⟨g, k, none⟩) (by rw [hsz]; show g < _; omega)).trans (h1.rowCell rfl hp)) (Nat.le_refl _) (Nat.le_refl _)
      (fun p hp W hW => by
        obtain ⟨i, v, hpi, hvi, hv⟩ := h1.volOf hp
        have hx := hv.str.cell 0
        simp only [Vo.cells, List.getElem?_toArray, List.getElem?_cons_zero] at hx
        rw [hf i p v hpi hvi]
        exact clo_find p.1 w.heap.size v.id id W ((hW.cell (p := ⟨p.1, 0, none⟩) hv.str.lt).trans hx) ((hW.cell (p := ⟨w.heap.size, 0, none⟩) (by rw [hsz]; show w.heap.size < _; omega)).trans hcb)) hlen)
    simp only [Mo.cells, List.getElem?_toArray, List.getElem?_cons_zero] at hm
    have HM := Lib.hid h1
    cases hfi : ps.findIdx? f with
    | none =>
      have hfa : firstAt f ps = -1 := by unfold firstAt; rw [hfi]
      rw [hfa] at HI
      rw [hidx, hfi]
      clear h h1 hf hidx hfi hfa
      go_enter Try.func32, Try.ntmps32
      go_wp2_with (go_at_call 53; refine HI.out.mono ?_; rintro r w1 ⟨rfl, hb2⟩)
      go_ret
      exact ⟨rfl, hb1.trans (hb2.mono (by simp))⟩
    | some k =>
      have hfa : firstAt f ps = (k : Int) := by unfold firstAt; rw [hfi]
      have hk : k < ps.length := by rw [List.findIdx?_eq_some_iff_getElem] at hfi; exact hfi.1
      have hpk : ps[k]? = some ps[k] := List.getElem?_eq_getElem hk
      rw [hfa] at HI
      rw [hidx, hfi]
      have hres : ptrOf ps (some k) = some ⟨(ps[k]).1, 0, none⟩ := by simp [ptrOf, hpk]
      rw [hres]
      have hci := h1.rowCell rfl hpk
      obtain ⟨q, hq⟩ : ∃ q, q = (ps[k]).1 := ⟨_, rfl⟩
      rw [← hq] at hci ⊢
      have HX := Lib.hid (show ∀ w1, Below (w.alloc (.cells #[.int .i64 id] 3)).heap.size (w.alloc (.cells #[.int .i64 id] 3)) w1 → w1.cell? ⟨m, 0, none⟩ = some (.slice (some ⟨g, 0, none⟩) ps.length cap) ∧ w1.cell? ⟨g, k, none⟩ = some (.pointer (some ⟨q, 0, none⟩)) from fun w1 hb => ⟨(hb.cell (p := ⟨m, 0, none⟩) (by rw [hsz]; show m < _; omega)).trans hm, (hb.cell (p := ⟨g, k, none⟩) (by rw [hsz]; show g < _; omega)).trans hci⟩)
      clear h h1 hf hidx hfi hfa hres hpk hq hci
      have hk1 : (k : Int) < (ps.length : Int) := by omega
      have hk0 : (0 : Int) ≤ (k : Int) := by omega
      go_enter Try.func32, Try.ntmps32
      go_wp2_with (go_at_call 53; refine HI.out.mono ?_; rintro r w1 ⟨rfl, hb2⟩; have hx2 := HX.out w1 hb2; obtain ⟨hx3, hx4⟩ := hx2)
      go_ret
      exact ⟨rfl, hb1.trans (hb2.mono (by simp))⟩
end Go.Proofs.Ytmanldcohbegkaa
