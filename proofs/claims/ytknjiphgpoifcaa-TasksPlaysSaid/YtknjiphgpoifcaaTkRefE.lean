/-
  The document's queue: without, Done, Abort.
-/
import Derived.Test.YtknjiphgpoifcaaTkRefD
import Derived.Test.YtknjiphgpoifcaaTkDrop
namespace Go.Proofs.Ytknjiphgpoifcaa
open Go.RowKit

theorem ownsRow_shape {w : World} {base : Nat} {e : TypeId} {size n : Nat} {v : Value} {xs : List Value} (h : w.ownsRow base e size v n xs) : ∃ a c, v = .slice a n c := by
  rcases h.2 with ⟨e, h0⟩ | ⟨g, cap, cur, e, _⟩
  · exact ⟨none, 0, by rw [e, h0]⟩
  · exact ⟨_, _, e⟩
/-- A queue whose row was laid anew. -/
theorem QAt.rerow {T : TypeId} {w V : World} {q room : Nat} {l l' : List El} {F : Nat → Prop} {av : Value} (h : QAt T w q room l F) (hb : Below w.heap.size w V) (hr : V.ownsRow w.heap.size T 12 av l'.length (flat l')) (hs : ∀ e ∈ l', e ∈ l) (hl : l'.length ≤ 8) :
    QAt T (V.setCell ⟨q, 1, none⟩ av) q room l' (fun k => F k ∨ (w.heap.size ≤ k ∧ k < (V.setCell ⟨q, 1, none⟩ av).heap.size)) ∧ Keeps F w (V.setCell ⟨q, 1, none⟩ av) := by
  have hq := h.lt q h.fq
  have s1 := hb.size
  have hss : (V.setCell ⟨q, 1, none⟩ av).heap.size = V.heap.size := by simp [World.setCell]
  have K2 : Keeps (· = q) V (V.setCell ⟨q, 1, none⟩ av) := Keeps.setCell (Keeps.refl (· = q) V) (p := ⟨q, 1, none⟩) (fun _ => rfl) _
  have K : Keeps F w (V.setCell ⟨q, 1, none⟩ av) := (Keeps.of_below (F := F) hb).trans K2 fun k _ e => e ▸ h.fq
  have hav := World.ownsRow.lt hr
  obtain ⟨ov, hov, hrow⟩ := h.row
  refine ⟨⟨.inl h.fq, fun k hk => ?_, ?_, fun j => ?_, hl, av, World.cell?_setCell_same _ _ _ ((hb.cell (p := ⟨q, 1, none⟩) hq).trans hov), ?_, fun g hg => ?_, fun e he => ?_⟩, K⟩
  · rcases hk with hk | hk
    · have := h.lt k hk; omega
    · exact hk.2
  · rw [World.cell?_setCell_other _ _ _ _ (by simp), hb.cell (p := ⟨q, 0, none⟩) hq]; exact h.room
  · rw [World.frozen?_setCell, hb.frozen (p := ⟨q, j, none⟩) hq]; exact h.free j
  · exact ownsRow_mono (K2.owns hr (fun g e hgq => by have := (hav g e).1; omega)) (Nat.zero_le _)
  · have := hav g hg
    exact ⟨.inr ⟨this.1, by rw [hss]; exact this.2⟩, by omega⟩
  · obtain ⟨h1, h2, h3⟩ := hrow.data e (hs e he)
    refine ⟨(h1.later hb).keeps K2 (h3.mono fun k hk => hk.2.1), h2, h3.mono fun k hk => ⟨.inl hk.1, hk.2.1, fun e => ?_⟩⟩
    have h4 := (hav k e.symm).1
    have h5 := h.lt k hk.1
    omega
theorem flat_one {w : World} {T : TypeId} {q : Nat} {av : Value} {l : List El} {F : Nat → Prop} (h : RowAt T w q av l F) : ∀ u ∈ flat l, u.oneCell' = true := by
  intro u hu
  obtain ⟨e, he, hu⟩ := List.mem_flatMap.1 hu
  obtain ⟨da, dc, ed⟩ := (h.data e he).1.form
  simp only [El.cells, ed, List.mem_cons, List.not_mem_nil, or_false] at hu
  rcases hu with rfl | rfl | rfl | rfl | rfl | rfl | rfl | rfl | rfl | rfl | rfl | rfl <;> rfl

set_option maxRecDepth 100000 in
set_option maxHeartbeats 3200000 in
theorem without_any (q room i : Nat) (l : List El) (F : Nat → Prop) (w : World) (h : QAt 65 w q room l F) (hi : i < l.length) :
    Calls Try.prog 30 #[.pointer (some ⟨q, 0, none⟩), .int .i64 (i : Int)] w fun r w' => r = .returned (.tuple #[]) ∧ QAt 65 w' q room (l.eraseIdx i) (fun k => F k ∨ (w.heap.size ≤ k ∧ k < w'.heap.size)) ∧ Keeps F w w' := by
  obtain ⟨av, hav, hrow⟩ := h.row
  have hle := h.le
  obtain ⟨g, cap, rfl⟩ := hrow.form (by omega)
  have hq := h.lt q h.fq
  have hgl := h.lt g (hrow.blk g rfl).1
  have hcap : l.length ≤ cap := by
    rcases hrow.own.2 with ⟨e, h0⟩ | ⟨g', cap', cur, e, a1, a2, a3, a4, a5, a6⟩
    · simp at e
    · injection e with e1 e2 e3
      rw [e3]; exact a3
  have hrd : ∀ j, j < l.length * 12 → w.cell? ⟨g, j, none⟩ = (flat l)[j]? := fun j hj => World.ownsRow.cellAt hrow.own j hj
  have hone := Lib.hid (flat_one hrow)
  have hfq : w.frozen? ⟨q, 1, none⟩ = false := h.free 1
  obtain ⟨A, hA, hsrc⟩ : ∃ A : Addr, (if cap = i + 1 then (some ⟨g, 0, none⟩ : Option Addr) else some ⟨g, (i + 1) * 12, none⟩) = some A ∧ Hid (∀ w1, Below w.heap.size w w1 → ∀ t u, ((flat l).drop ((i + 1) * 12))[t]? = some u → w1.cell? (A.add t) = some u) := by
    by_cases h' : cap = i + 1
    · refine ⟨⟨g, 0, none⟩, by simp [h'], Lib.hid fun w1 hb t u hu => ?_⟩
      have h0 : ((flat l).drop ((i + 1) * 12)).length = 0 := by rw [List.length_drop, flat_length]; omega
      rw [List.length_eq_zero_iff.1 h0] at hu
      simp at hu
    · refine ⟨⟨g, (i + 1) * 12, none⟩, by simp [h'], Lib.hid fun w1 hb t u hu => ?_⟩
      have ht : t < (l.length - (i + 1)) * 12 := by
        have := (List.getElem?_eq_some_iff.1 hu).1
        rw [List.length_drop, flat_length] at this
        omega
      rw [Addr.add_lit, hb.cell (p := ⟨g, (i + 1) * 12 + t, none⟩) hgl, hrd _ (by omega), ← hu, List.getElem?_drop]
  have hfirst := Lib.hid (show ∀ t u, ((flat l).take (i * 12))[t]? = some u → w.cell? ((⟨g, 0, none⟩ : Addr).add t) = some u from fun t u hu => by
    have ht : t < i * 12 := by
      have := (List.getElem?_eq_some_iff.1 hu).1
      rw [List.length_take] at this
      omega
    rw [Addr.add_lit, Nat.zero_add, hrd _ (by omega), ← hu, List.getElem?_take, if_pos ht])
  have hl1 := Lib.hid (show ((flat l).take (i * 12)).length = i * 12 by rw [List.length_take, flat_length]; omega)
  have hl2 := Lib.hid (show ((flat l).drop ((i + 1) * 12)).length = (l.length - (i + 1)) * 12 by rw [List.length_drop, flat_length]; omega)
  have hic : i ≤ cap := by omega
  have hjc : i + 1 ≤ cap := by omega
  have hjl : (i : Int) + 1 ≤ (l.length : Int) := by omega
  have hnm : maxLen = 9223372036854775807 := rfl
  have HQ := Lib.hid h
  have HM := Lib.hid hrd
  clear h hrd hrow
  obtain ⟨i0, hi0, hz0, hz1, hz2⟩ := info_parts Try.info_oneR
  have HI := Lib.hid hi0; clear hi0
  have HZ0 := Lib.hid hz0; clear hz0
  have HZ1 := Lib.hid hz1; clear hz1
  have HZ2 := Lib.hid hz2; clear hz2
  go_enter Try.func30, Try.ntmps30
  go_upto_region 2 with (at_builtin; refine wpList_append_own w rfl (.tmp 5) (.tmp 11) 47 rfl w.heap.size 65 i0 _ 12 104 Try.underlying47 HI.out HZ0.out HZ1.out HZ2.out rfl (by decide) (.slice none 0 0) 0 [] rfl (World.ownsRow_nil _ _ _ _) ⟨g, 0, none⟩ i cap ((flat l).take (i * 12)) rfl hl1.out hfirst.out (fun u hu => hone.out u (List.mem_of_mem_take hu)) (by omega) (by omega) (Nat.le_refl _) ?_; intro v1 w1 hown1 hgrow1 _; rw [Nat.zero_add, List.nil_append] at hown1; obtain ⟨a1, c1, rfl⟩ := ownsRow_shape hown1)
  have HB1 := Lib.hid (show Below w.heap.size w w1 from (Below.refl _ _).grown hgrow1 (Nat.le_refl _) (fun k hk => by simp [Value.ownBlock] at hk))
  have x1 : w1.cell? ⟨q, 1, none⟩ = some (.slice (some ⟨g, 0, none⟩) l.length cap) := (HB1.out.cell (p := ⟨q, 1, none⟩) hq).trans hav
  have hs1 := HB1.out.size
  have HO1 := Lib.hid hown1
  clear hown1 hgrow1
  go_upto_region 3 with (at_builtin; refine wpList_append_own w1 rfl (.tmp 13) (.tmp 20) 47 rfl w.heap.size 65 i0 _ 12 104 Try.underlying47 HI.out HZ0.out HZ1.out HZ2.out rfl (by decide) (.slice a1 i c1) i ((flat l).take (i * 12)) rfl HO1.out A (l.length - (i + 1)) (cap - (i + 1)) ((flat l).drop ((i + 1) * 12)) rfl hl2.out (hsrc.out w1 HB1.out) (fun u hu => hone.out u (List.mem_of_mem_drop hu)) (by omega) (by omega) hs1 ?_; intro v2 w2 hown2 hgrow2 _; obtain ⟨a2, c2, rfl⟩ := ownsRow_shape hown2)
  have HB2 := Lib.hid (show Below w.heap.size w w2 from HB1.out.grown hgrow2 hs1 (fun k hk => (World.ownsRow.lt HO1.out k hk).1))
  have x2 : w2.cell? ⟨q, 1, none⟩ = some (.slice (some ⟨g, 0, none⟩) l.length cap) := (HB2.out.cell (p := ⟨q, 1, none⟩) hq).trans hav
  have f2 : w2.frozen? ⟨q, 1, none⟩ = false := (HB2.out.frozen (p := ⟨q, 1, none⟩) hq).trans hfq
  have hlen : (l.eraseIdx i).length = i + (l.length - (i + 1)) := by rw [List.length_eraseIdx, if_pos hi]; omega
  rw [← flat_eraseIdx l i hi, ← hlen] at hown2
  have HF := Lib.hid (QAt.rerow HQ.out HB2.out hown2 (fun e he => List.mem_of_mem_eraseIdx he) (by omega))
  rw [hlen] at HF
  clear hown2 hgrow2 HO1 x1 hone hsrc hfirst hl1 hl2
  go_wp2
  first | (refine bodyPost_ret (results_none rfl _ _ _) rfl ?_) | go_end0
  exact ⟨rfl, HF.out⟩

def RDone (q room : Nat) (l : List El) (F : Nat → Prop) (w : World) (p : El → Bool) (yes no : Value) (r : Ending) (w' : World) : Prop :=
  (l.findIdx? p = none ∧ r = .returned no ∧ w = w') ∨ ∃ i, l.findIdx? p = some i ∧ r = .returned yes ∧ QAt 65 w' q room (l.eraseIdx i) (fun k => F k ∨ (w.heap.size ≤ k ∧ k < w'.heap.size)) ∧ Keeps F w w'

theorem findIdx_first {p : El → Bool} {l : List El} {i : Nat} {e : El} (hi : l[i]? = some e) (hp : p e = true) (hno : ∀ j x, j < i → l[j]? = some x → p x = false) : l.findIdx? p = some i := by
  obtain ⟨hlt, rfl⟩ := List.getElem?_eq_some_iff.1 hi
  rw [List.findIdx?_eq_some_iff_getElem]
  exact ⟨hlt, hp, fun j hj => by rw [hno j _ hj (List.getElem?_eq_getElem (by omega))]; simp⟩
theorem findIdx_no {p : El → Bool} {l : List El} (hno : ∀ j x, j < l.length → l[j]? = some x → p x = false) : l.findIdx? p = none := by
  rw [List.findIdx?_eq_none_iff]
  intro x hx
  obtain ⟨j, hj, hjx⟩ := List.mem_iff_getElem.1 hx
  exact hno j x hj (by rw [← hjx]; exact List.getElem?_eq_getElem hj)

set_option maxRecDepth 100000 in
set_option maxHeartbeats 3200000 in
theorem rdone_any (q room : Nat) (l : List El) (F : Nat → Prop) (n : Int) (w : World) (h : QAt 65 w q room l F) :
    Calls Try.prog 17 #[.pointer (some ⟨q, 0, none⟩), .int .i64 n] w (RDone q room l F w (p_done n) (.int .i64 0) (.int .i64 46)) := by
  obtain ⟨av, hav, hrow⟩ := h.row
  have hle := h.le
  obtain ⟨ao, cap, rfl⟩ := hrow.shape
  have HR := Lib.hid hrow; clear hrow
  have HQ := Lib.hid h; clear h
  go_enter Try.func17, Try.ntmps17
  go_wp2_with fail
  go_loopg [5] l.length (fun g s5 wx => wx = w ∧ ∃ i : Nat, s5 = .int .i64 i ∧ i + g = l.length ∧ ∀ j x, j < i → l[j]? = some x → p_done n x = false)
  case atStart => exact ⟨rfl, 0, rfl, by omega, fun j x hj => by omega⟩
  case round =>
    obtain ⟨hw, i, rfl, hig, hall⟩ := hrel
    have hw2 := hw.symm
    clear hw
    subst hw2
    have HA := Lib.hid hall; clear hall
    by_cases hi : i < l.length
    case neg =>
      obtain rfl : i = l.length := by omega
      have HNo := Lib.hid (findIdx_no HA.out)
      go_wp2_with fail
      go_ret
      exact Or.inl ⟨HNo.out, rfl, rfl⟩
    case pos =>
      obtain ⟨e, he⟩ : ∃ e, l[i]? = some e := ⟨l[i], List.getElem?_eq_getElem hi⟩
      obtain ⟨g, cap', e1⟩ := HR.out.form (by omega)
      injection e1 with e1 _ e2
      subst e1; subst e2
      have xc := HR.out.cell i e he 0 (by omega)
      have xu := HR.out.cell i e he 11 (by omega)
      simp only [El.cells, List.getElem?_cons_zero, List.getElem?_cons_succ, Nat.add_zero] at xc xu
      have HNx := Lib.hid (show p_done n e = false → ∀ j x, j < i + 1 → l[j]? = some x → p_done n x = false from fun hp j x hj hx => by
        rcases Nat.lt_or_eq_of_le (Nat.lt_succ_iff.1 hj) with h | h
        · exact HA.out j x h hx
        · subst h
          have := hx.symm.trans he
          injection this with this
          rw [this]; exact hp)
      have HYs := Lib.hid (show p_done n e = true → l.findIdx? (p_done n) = some i from fun hp => findIdx_first he hp HA.out)
      have HP := Lib.hid (show p_done n e = (e.u && e.t.cmd == n) from rfl)
      clear he
      obtain ⟨⟨cmd, tag, op, ord, fua, vol, lba, cnt, siz, quo, data⟩, dv, u⟩ := e
      dsimp only at xc xu HP
      cases u with
      | false =>
        go_wp2_with fail
        go_roundg (gk - 1)
        case measure => omega
        case rel => exact ⟨rfl, i + 1, by go_num, by omega, HNx.out HP.out⟩
      | true =>
        by_cases hc : cmd = n
        · have hb : (cmd == n) = true := by simp [hc]
          rw [hb] at HP
          have HF := Lib.hid (HYs.out HP.out)
          have HW := Lib.hid (without_any q room i l F w HQ.out hi)
          clear hc HYs HNx HP
          go_wp2_with fail
          refine HW.out.mono ?_
          rintro r w2 ⟨rfl, hq2, hk2⟩
          have HQ2 := Lib.hid hq2
          have HK2 := Lib.hid hk2
          clear hq2 hk2 HW
          go_wp2_with fail
          go_ret
          exact Or.inr ⟨i, HF.out, rfl, HQ2.out, HK2.out⟩
        · have hb : (cmd == n) = false := by rw [beq_eq_false_iff_ne]; exact hc
          rw [hb] at HP
          clear hc
          go_wp2_with fail
          go_roundg (gk - 1)
          case measure => omega
          case rel => exact ⟨rfl, i + 1, by go_num, by omega, HNx.out HP.out⟩

set_option maxRecDepth 100000 in
set_option maxHeartbeats 3200000 in
theorem rabort_any (q room : Nat) (l : List El) (F : Nat → Prop) (n : Int) (w : World) (h : QAt 65 w q room l F) :
    Calls Try.prog 19 #[.pointer (some ⟨q, 0, none⟩), .int .i64 n] w (RDone q room l F w (p_abort n) (.bool true) (.bool false)) := by
  obtain ⟨av, hav, hrow⟩ := h.row
  have hle := h.le
  obtain ⟨ao, cap, rfl⟩ := hrow.shape
  have HR := Lib.hid hrow; clear hrow
  have HQ := Lib.hid h; clear h
  go_enter Try.func19, Try.ntmps19
  go_wp2_with fail
  go_loopg [5] l.length (fun g s5 wx => wx = w ∧ ∃ i : Nat, s5 = .int .i64 i ∧ i + g = l.length ∧ ∀ j x, j < i → l[j]? = some x → p_abort n x = false)
  case atStart => exact ⟨rfl, 0, rfl, by omega, fun j x hj => by omega⟩
  case round =>
    obtain ⟨hw, i, rfl, hig, hall⟩ := hrel
    have hw2 := hw.symm
    clear hw
    subst hw2
    have HA := Lib.hid hall; clear hall
    by_cases hi : i < l.length
    case neg =>
      obtain rfl : i = l.length := by omega
      have HNo := Lib.hid (findIdx_no HA.out)
      go_wp2_with fail
      go_ret
      exact Or.inl ⟨HNo.out, rfl, rfl⟩
    case pos =>
      obtain ⟨e, he⟩ : ∃ e, l[i]? = some e := ⟨l[i], List.getElem?_eq_getElem hi⟩
      obtain ⟨g, cap', e1⟩ := HR.out.form (by omega)
      injection e1 with e1 _ e2
      subst e1; subst e2
      have xc := HR.out.cell i e he 1 (by omega)
      have xu := HR.out.cell i e he 11 (by omega)
      simp only [El.cells, List.getElem?_cons_zero, List.getElem?_cons_succ] at xc xu
      have HNx := Lib.hid (show p_abort n e = false → ∀ j x, j < i + 1 → l[j]? = some x → p_abort n x = false from fun hp j x hj hx => by
        rcases Nat.lt_or_eq_of_le (Nat.lt_succ_iff.1 hj) with h | h
        · exact HA.out j x h hx
        · subst h
          have := hx.symm.trans he
          injection this with this
          rw [this]; exact hp)
      have HYs := Lib.hid (show p_abort n e = true → l.findIdx? (p_abort n) = some i from fun hp => findIdx_first he hp HA.out)
      have HP := Lib.hid (show p_abort n e = (!e.u && e.t.tag == n) from rfl)
      clear he
      obtain ⟨⟨cmd, tag, op, ord, fua, vol, lba, cnt, siz, quo, data⟩, dv, u⟩ := e
      dsimp only at xc xu HP
      cases u with
      | true =>
        go_wp2_with fail
        go_roundg (gk - 1)
        case measure => omega
        case rel => exact ⟨rfl, i + 1, by go_num, by omega, HNx.out HP.out⟩
      | false =>
        by_cases hc : tag = n
        · have hb : (tag == n) = true := by simp [hc]
          rw [hb] at HP
          have HF := Lib.hid (HYs.out HP.out)
          have HW := Lib.hid (without_any q room i l F w HQ.out hi)
          clear hc HYs HNx HP
          go_wp2_with fail
          refine HW.out.mono ?_
          rintro r w2 ⟨rfl, hq2, hk2⟩
          have HQ2 := Lib.hid hq2
          have HK2 := Lib.hid hk2
          clear hq2 hk2 HW
          go_wp2_with fail
          go_ret
          exact Or.inr ⟨i, HF.out, rfl, HQ2.out, HK2.out⟩
        · have hb : (tag == n) = false := by rw [beq_eq_false_iff_ne]; exact hc
          rw [hb] at HP
          clear hc
          go_wp2_with fail
          go_roundg (gk - 1)
          case measure => omega
          case rel => exact ⟨rfl, i + 1, by go_num, by omega, HNx.out HP.out⟩
end Go.Proofs.Ytknjiphgpoifcaa
