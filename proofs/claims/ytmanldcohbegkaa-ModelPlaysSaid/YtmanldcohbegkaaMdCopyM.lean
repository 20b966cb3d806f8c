/-
  The model: Copy. (Written by gen_mdcopym.py.)
-/
import Derived.Test.YtmanldcohbegkaaMdVols
namespace Go.Proofs.Ytmanldcohbegkaa
open Go.RowKit
set_option linter.unusedVariables false
set_option linter.unusedSimpArgs false

def Mo.push (S : Mo) (v : Vo) : Mo := { vols := S.vols ++ [v], next := S.next }
theorem push_at [Zs] {w w1 : World} {m : Nat} {rv v2 : Value} {ps : List (Nat × Nat)} {S : Mo} {p b : Nat} {v : Vo} (h : ModelIs w m rv ps S) (hv : VolAt w p b v) (hp : ¬ Own m rv ps p) (hb : ¬ Own m rv ps b) (hk : Keeps (fun k => rv.ownBlock = some k) w w1)
    (hrow : w1.ownsRow 0 63 1 v2 (ps.length + 1) (ptrs ps ++ [.pointer (some ⟨p, 0, none⟩)])) (hblk : v2.ownBlock = rv.ownBlock ∨ ∃ g, v2.ownBlock = some g ∧ w.heap.size ≤ g) :
    ModelIs (w1.setCell ⟨m, 0, none⟩ v2) m v2 (ps ++ [(p, b)]) (S.push v) ∧ Keeps (Own m rv ps) w (w1.setCell ⟨m, 0, none⟩ v2) ∧
    ∀ k, Own m v2 (ps ++ [(p, b)]) k → Own m rv ps k ∨ k = p ∨ k = b ∨ w.heap.size ≤ k := by
  have hml := h.head.lt
  have hOm : Own m rv ps m := .inl rfl
  have hkW : Keeps (Own m rv ps) w w1 := hk.mono (fun _ _ h => .inr (.inl h))
  have hkf := hkW.setModel hOm 0 v2
  have hset : Keeps (fun x => x = m) w1 (w1.setCell ⟨m, 0, none⟩ v2) := (Keeps.refl (fun x => x = m) w1).setCell (p := ⟨m, 0, none⟩) (fun _ => rfl) _
  -- the row's block is none of the others
  have hrm : ¬ rv.ownBlock = some m := by
    intro e
    obtain ⟨cur, hc⟩ := rowBlock h.row e
    have := h.head; unfold CellsAt at this; rw [this] at hc; simp at hc
  have hm1 : CellsAt w1 m (S.cells rv) 53 := h.head.keeps hk hrm
  have hv2m : ∀ g, v2.ownBlock = some g → ¬ g = m := by
    rintro g hg rfl
    rcases hblk with e | ⟨g', e, hg'⟩
    · rw [e] at hg; exact hrm hg
    · rw [e] at hg; cases hg; omega
  have hk2 : Keeps (fun k => rv.ownBlock = some k ∨ k = m) w (w1.setCell ⟨m, 0, none⟩ v2) := (hk.mono (fun _ _ h => .inl h)).trans (hset.mono (fun _ _ h => .inr h)) (fun _ _ h => h)
  have h5 : ∀ g cur, w.heap[g]? = some (.cells cur 5 (0, 0)) → ¬ (rv.ownBlock = some g ∨ g = m) := fun g cur hc hor => h.noBytes g cur hc (hor.elim (fun e => .inr (.inl e)) (fun e => .inl e))
  refine ⟨⟨?_, hset.owns (by simpa [ptrs] using hrow) hv2m, by simp [Mo.push, h.len], ?_, ?_, ?_⟩, hkf, ?_⟩
  · exact hm1.set 0 v2
  · intro i q u hq hu
    by_cases hi : i < ps.length
    · rw [List.getElem?_append_left hi] at hq
      have hu2 : S.vols[i]? = some u := by
        simp only [Mo.push] at hu
        rw [List.getElem?_append_left (by rw [← h.len]; exact hi)] at hu; exact hu
      have hvq := h.vol i q u hq hu2
      have hqm : q ∈ ps := List.mem_of_getElem? hq
      refine hvq.keeps hk2 ?_ ?_ h5
      · rintro (e | e)
        · obtain ⟨cur, hc⟩ := rowBlock h.row e
          have := hvq.str; unfold CellsAt at this; rw [this] at hc; simp at hc
        · have h1 := hvq.str; have h2 := h.head; unfold CellsAt at h1 h2; rw [e, h2] at h1; simp at h1
      · rintro (e | e)
        · obtain ⟨cur, hc⟩ := rowBlock h.row e
          exact hvq.map.notCells _ _ _ hc
        · have h2 := h.head; unfold CellsAt at h2; rw [← e] at h2; exact hvq.map.notCells _ _ _ h2
    · rw [List.getElem?_append_right (by omega)] at hq
      simp only [Mo.push] at hu
      rw [List.getElem?_append_right (by rw [← h.len]; omega), ← h.len] at hu
      have hz : i - ps.length = 0 := by
        rcases Nat.eq_zero_or_pos (i - ps.length) with e | e
        · exact e
        · rw [List.getElem?_eq_none (by simp; omega)] at hq; cases hq
      rw [hz] at hq hu
      simp at hq hu
      subst hq hu
      exact hv.keeps hk2 (fun e => hp (e.elim (fun e => .inr (.inl e)) (fun e => .inl e))) (fun e => hb (e.elim (fun e => .inr (.inl e)) (fun e => .inl e))) h5
  · rw [List.map_append, List.nodup_append]
    refine ⟨h.ap1, by simp, ?_⟩
    intro a ha c hc e
    simp at hc
    obtain ⟨q, hq, rfl⟩ := List.mem_map.1 ha
    exact hp (.inr (.inr ⟨q, hq, .inl (by rw [e, hc])⟩))
  · rw [List.map_append, List.nodup_append]
    refine ⟨h.ap2, by simp, ?_⟩
    intro a ha c hc e
    simp at hc
    obtain ⟨q, hq, rfl⟩ := List.mem_map.1 ha
    exact hb (.inr (.inr ⟨q, hq, .inr (by rw [e, hc])⟩))
  · rintro k (rfl | e | ⟨q, hq, hk⟩)
    · exact .inl (.inl rfl)
    · rcases hblk with e2 | ⟨g, e2, hg⟩
      · rw [e2] at e; exact .inl (.inr (.inl e))
      · rw [e2] at e; cases e; exact .inr (.inr (.inr hg))
    · rcases List.mem_append.1 hq with hq | hq
      · exact .inl (.inr (.inr ⟨q, hq, hk⟩))
      · simp at hq; subst hq; exact .inr (hk.elim .inl (fun e => .inr (.inl e)))

theorem wp_append_at {P : Program} (w : World) {o : Oper} {a : Act} {K : Act → World → Prop} {Q : Exit → Act → World → Prop} (s x : Operand) (t : TypeId)
    (ho : o.op = .call { callee := .builtin .append, args := #[s, x], argTypes := #[t, t] }) (base : Nat) (e : TypeId) (i : TypeInfo) (z : Value) (size bytes : Nat) (ht : P.underlying t = some (.slice e)) (hi : P.info? e = some i) (hz : i.zero = some z)
    (hsize : i.size = size) (hby : i.bytes = bytes) (hzs : z.cells.size = size) (hsz : 0 < size) (v : Value) (n : Nat) (xs : List Value) (hs : a.eval s = v) (hown : w.ownsRow base e size v n xs)
    (ad : Addr) (m c : Nat) (news : List Value) (hx : a.eval x = .slice (some ad) m c) (hl : news.length = m * size) (hnews : ∀ j u, news[j]? = some u → w.cell? (ad.add j) = some u) (h1 : ∀ u ∈ news, u.oneCell' = true)
    (h63 : n + m ≤ maxLen) (hbytes : (n + m) * bytes ≤ 140737488355328) (hbase : base ≤ w.heap.size)
    (h : ∀ v' w', w'.ownsRow base e size v' (n + m) (xs ++ news) → w.grownBy w' v.ownBlock → (v'.ownBlock = v.ownBlock ∨ v'.ownBlock = some w.heap.size) → K (a.put o.dst v') w') : o.wp P a w K Q := by
  obtain ⟨v', w', hr, h2, h3, h4, h5⟩ := run_append_own_at (P := P) w base t o.type e i z size bytes ht hi hz hsize hby hzs hsz v n xs hown ad m c news hl hnews h1 h63 hbytes hbase
  unfold Oper.wp
  simp only [execOp, ho, resolve, invoke, builtin, Sem.run_bind, Sem.run_pure, Result.andThen_ok, List.map_toArray, List.map_cons, List.map_nil, hs, hx, hr]
  exact h v' w' h2 h3 h5

set_option maxRecDepth 100000 in
set_option maxHeartbeats 12800000 in
theorem copy_any [Zs] (m : Nat) (rv : Value) (ps : List (Nat × Nat)) (S : Mo) (w : World) (h : ModelIs w m rv ps S) (hlen : ps.length ≤ 8) :
    Calls Try.prog 19 #[.pointer (some ⟨m, 0, none⟩)] w fun e w' => ∃ rv' ps', e = .returned (.pointer (some ⟨w.heap.size, 0, none⟩)) ∧ ModelIs w' w.heap.size rv' ps' S ∧ Keeps (fun _ => False) w w' ∧ ∀ k, Own w.heap.size rv' ps' k → w.heap.size ≤ k := by
  obtain ⟨i0, hi, hz0, hz1, hz2⟩ := info_parts Try.info_ptr
  have HI := Lib.hid hi; clear hi
  have HZ0 := Lib.hid hz0; clear hz0
  have HZ1 := Lib.hid hz1; clear hz1
  have HZ2 := Lib.hid hz2; clear hz2
  have hml := h.head.lt
  have hm0' := h.head.cell 0
  have hm1' := h.head.cell 1
  simp only [Mo.cells, List.getElem?_toArray, List.getElem?_cons_zero, List.getElem?_cons_succ] at hm0' hm1'
  have hm0 := fun o => (World.cell?_alloc_lt w o ⟨m, 0, none⟩ hml).trans hm0'
  have HM := Lib.hid h; clear h
  have hstart : ModelIs (w.alloc (.cells #[.slice none 0 0, .int .i64 S.next] 53)) w.heap.size (.slice none 0 0) [] ⟨[], S.next⟩ := ⟨heap_at rfl, World.ownsRow_nil _ _ _ _, rfl, fun i p v hp => by simp at hp, by simp, by simp⟩
  have HST := Lib.hid hstart; clear hstart
  have hstn : ∀ x, Own w.heap.size (.slice none 0 0) [] x → w.heap.size ≤ x := by
    rintro x (rfl | e | ⟨q, hq, _⟩)
    · exact Nat.le_refl _
    · simp [Value.ownBlock] at e
    · simp at hq
  have HSN := Lib.hid hstn; clear hstn
  rcases HM.out.rowForm with ⟨e, e2⟩ | ⟨g, cap, e, hgl, hcap⟩
  · subst e e2
    have hv0 : S = ⟨[], S.next⟩ := by
      have : S.vols = [] := List.eq_nil_of_length_eq_zero HM.out.len.symm
      cases S; simp at this; subst this; rfl
    have HV0 := Lib.hid hv0; clear hv0
    go_enter Try.func19, Try.ntmps19
    go_wp2_with fail
    go_loopw [17] (fun j wr => j = .int .i64 0 ∧ wr = w.alloc (.cells #[.slice none 0 0, .int .i64 S.next] 53)) (fun _ _ => 0)
    case atStart => exact ⟨rfl, rfl⟩
    case round =>
      obtain ⟨rfl, rfl⟩ := hrel
      go_wp2
      go_ret
      exact ⟨_, _, rfl, by rw [HV0.out]; exact HST.out, (Keeps.refl _ w).alloc _, HSN.out⟩
  · subst e
    obtain ⟨n, hn⟩ : ∃ n, n = ps.length := ⟨_, rfl⟩
    rw [← hn] at hm0
    have hn1 : n ≤ ps.length := by omega
    have hn2 : ps.length ≤ n := by omega
    clear hn hm0'
    go_enter Try.func19, Try.ntmps19
    go_wp2_with fail
    go_loopw [17] (fun j wr => ∃ k : Nat, k ≤ n ∧ j = .int .i64 (k : Int) ∧ ∃ rvk psk, psk.length = k ∧ ModelIs wr w.heap.size rvk psk ⟨S.vols.take k, S.next⟩ ∧ Keeps (fun _ => False) w wr ∧ ∀ x, Own w.heap.size rvk psk x → w.heap.size ≤ x) (fun j _ => n - (intOf j).toNat)
    case atStart => exact ⟨0, by omega, rfl, .slice none 0 0, [], rfl, by rw [List.take_zero]; exact HST.out, (Keeps.refl _ w).alloc _, HSN.out⟩
    case round =>
      obtain ⟨k, hk, rfl, rvk, psk, hpl, hmr, hkr, hnr⟩ := hrel
      obtain ⟨ra, rn, rc, rfl⟩ : ∃ a n c, rvk = .slice a n c := by
        rcases hmr.rowForm with ⟨e, _⟩ | ⟨g, cap, e, _⟩ <;> exact ⟨_, _, _, e⟩
      have HMr := Lib.hid hmr; clear hmr
      have HKr := Lib.hid hkr; clear hkr
      have HNr := Lib.hid hnr; clear hnr
      have hpk : psk.length ≤ k := by omega
      have HPL := Lib.hid hpl; clear hpl
      by_cases hlt : k < n
      case neg =>
        obtain rfl : k = n := by omega
        have hkk : ¬ (k : Int) < (k : Int) := by omega
        go_wp2
        go_ret
        refine ⟨rfl, .slice ra rn rc, psk, ?_, HKr.out, HNr.out⟩
        have := HMr.out
        rw [List.take_of_length_le (by rw [← HM.out.len]; omega)] at this
        exact this
      have hkn : (k : Int) < (n : Int) := by omega
      have hk0 : (0 : Int) ≤ (k : Int) := by omega
      obtain ⟨q, hq⟩ : ∃ q, ps[k]? = some q := ⟨ps[k]'(by omega), by simp [show k < ps.length by omega]⟩
      obtain ⟨p, b⟩ := q
      have hx1 : wr.cell? ⟨g, k, none⟩ = some (.pointer (some ⟨p, 0, none⟩)) := (HKr.out.cell (p := ⟨g, k, none⟩) hgl (fun h => h)).trans (HM.out.rowCell rfl hq)
      obtain ⟨u, hu⟩ : ∃ u, S.vols[k]? = some u := ⟨S.vols[k]'(by rw [← HM.out.len]; omega), by simp [show k < S.vols.length by rw [← HM.out.len]; omega]⟩
      have hvk := (HM.out.vol k _ u hq hu).keeps HKr.out (fun h => h) (fun h => h) (fun _ _ _ h => h)
      have hpw : p < w.heap.size := (HM.out.vol k _ u hq hu).str.lt
      have hwz : w.heap.size < wr.heap.size := HMr.out.head.lt
      have q0 := hvk.str.cell 0
      simp only [Vo.cells, List.getElem?_toArray, List.getElem?_cons_zero, List.getElem?_cons_succ] at q0
      have qc : wr.cell? ⟨w.heap.size, 0, none⟩ = some (.slice ra rn rc) := HMr.out.head.cell 0
      have qcd : wr.drew.cell? ⟨w.heap.size, 0, none⟩ = some (.slice ra rn rc) := qc
      have HCP : Calls Try.prog 30 #[.pointer (some ⟨p, 0, none⟩), .int .i64 u.id] wr.drew fun e w' => e = .returned (.pointer (some ⟨wr.heap.size + 1, 0, none⟩)) ∧ VolAt w' (wr.heap.size + 1) wr.heap.size u ∧ Below wr.heap.size wr w' :=
        (copied_any p b u u.id wr.drew hvk.drew).mono fun e w' ⟨h1, h2, h3⟩ => ⟨h1, h2, (Below.refl _ wr).drew.trans h3⟩
      have HCP := Lib.hid HCP
      have HVk := Lib.hid hu; clear hu
      clear hq hvk
      go_upto_region 5 with fail
      refine wp_region_held_drew (S := fun V => V.cell? ⟨p, 0, none⟩ = some (.int .i64 u.id)) (by kernel_rfl) q0 (fun hHeld => ?_)
      refine wpAnyH_take (i := 0) (v := (.pointer (some ⟨w.heap.size, 0, none⟩))) ops_at0 (by kernel_rfl) (by kernel_rfl) (by kernel_rfl) (fun _ _ _ h => h) (Or.inl ⟨by rfl, fun V hV => ?_⟩) hHeld ?_
      · go_simp
      simp only [Act.put, List.setIfInBounds_toArray, List.set_cons_zero, List.set_cons_succ]
      refine wpAnyH_take (i := 1) (v := (.pointer (some ⟨w.heap.size, 0, none⟩))) ops_at1 (by kernel_rfl) (by kernel_rfl) (by kernel_rfl) (fun _ _ _ h => h) (Or.inl ⟨by rfl, fun V hV => ?_⟩) hHeld ?_
      · go_simp
      simp only [Act.put, List.setIfInBounds_toArray, List.set_cons_zero, List.set_cons_succ]
      refine wpAnyH_take (i := 2) (v := (.pointer (some ⟨w.heap.size, 0, none⟩))) ops_at2 (by kernel_rfl) (by kernel_rfl) (by kernel_rfl) (fun _ _ _ h => h) (Or.inl ⟨by rfl, fun V hV => ?_⟩) hHeld ?_
      · go_simp
      simp only [Act.put, List.setIfInBounds_toArray, List.set_cons_zero, List.set_cons_succ]
      refine wpAnyH_take (i := 3) (v := (.pointer (some ⟨w.heap.size, 0, none⟩))) ops_at3 (by kernel_rfl) (by kernel_rfl) (by kernel_rfl) (fun _ _ _ h => h) (Or.inl ⟨by rfl, fun V hV => ?_⟩) hHeld ?_
      · go_simp
      simp only [Act.put, List.setIfInBounds_toArray, List.set_cons_zero, List.set_cons_succ]
      refine wpAnyH_take (i := 5) (v := (.pointer (some ⟨p, 0, none⟩))) ops_at5 (by kernel_rfl) (by kernel_rfl) (by kernel_rfl) (fun _ _ _ h => h) (Or.inl ⟨by rfl, fun V hV => ?_⟩) hHeld ?_
      · go_simp
      simp only [Act.put, List.setIfInBounds_toArray, List.set_cons_zero, List.set_cons_succ]
      refine wpAnyH_take (i := 6) (v := (.pointer (some ⟨p, 0, none⟩))) ops_at6 (by kernel_rfl) (by kernel_rfl) (by kernel_rfl) (fun _ _ _ h => h) (Or.inl ⟨by rfl, fun V hV => ?_⟩) hHeld ?_
      · go_simp
      simp only [Act.put, List.setIfInBounds_toArray, List.set_cons_zero, List.set_cons_succ]
      refine wpAnyH_take (i := 7) (v := (.pointer (some ⟨p, 0, none⟩))) ops_at7 (by kernel_rfl) (by kernel_rfl) (by kernel_rfl) (fun _ _ _ h => h) (Or.inl ⟨by rfl, fun V hV => ?_⟩) hHeld ?_
      · go_simp
      simp only [Act.put, List.setIfInBounds_toArray, List.set_cons_zero, List.set_cons_succ]
      refine wpAnyH_take (i := 8) (v := (.pointer (some ⟨p, 0, none⟩))) ops_at8 (by kernel_rfl) (by kernel_rfl) (by kernel_rfl) (fun _ _ _ h => h) (Or.inl ⟨by rfl, fun V hV => ?_⟩) hHeld ?_
      · go_simp
      simp only [Act.put, List.setIfInBounds_toArray, List.set_cons_zero, List.set_cons_succ]
      refine wpAnyH_take (i := 9) (v := .int .i64 u.id) ops_at9 (by kernel_rfl) (by kernel_rfl) (by kernel_rfl) (fun _ _ _ h => h) (Or.inl ⟨by rfl, fun V hV => ?_⟩) hHeld ?_
      · go_simp
      simp only [Act.put, List.setIfInBounds_toArray, List.set_cons_zero, List.set_cons_succ]
      refine wpAnyH_ready (rs := [4, 10]) (by kernel_rfl) (by simp) ?_
      refine AllReadyH.cons ops_at4 (fun K hK => ?_) (AllReadyH.cons ops_at10 (fun K hK => ?_) AllReadyH.nil)
      · skip
        rw [if_pos (by rfl)]
        have l4 := qcd
        have hSx := q0
        go_simp
        refine hK.out _ _ hSx (fun hHeld => ?_)
        clear hK K l4
        refine wpAnyH_ready (rs := [10]) (by kernel_rfl) (by simp) ?_
        refine AllReadyH.cons ops_at10 (fun K hK => ?_) AllReadyH.nil
        rw [if_pos (by rfl)]
        go_simp
        refine HCP.out.mono ?_
        rintro e w2 ⟨rfl, hv2, hb2⟩
        go_wp2_with fail
        have y0 : w2.cell? ⟨p, 0, none⟩ = some (.int .i64 u.id) := (hb2.cell (p := ⟨p, 0, none⟩) (by show p < _; omega)).trans q0
        have yc : w2.cell? ⟨w.heap.size, 0, none⟩ = some (.slice ra rn rc) := (hb2.cell (p := ⟨w.heap.size, 0, none⟩) (by show w.heap.size < _; omega)).trans qc
        have hSx := y0
        refine hK.out _ _ hSx (fun hHeld => ?_)
        clear hK K
        refine wpAnyH_ready (rs := [11]) (by kernel_rfl) (by simp) ?_
        refine AllReadyH.cons ops_at11 (fun K hK => ?_) AllReadyH.nil
        rw [if_pos (by rfl)]
        go_simp
        obtain ⟨w3, hw3⟩ : ∃ w3, w3 = w2.alloc (.cells #[.pointer (some ⟨wr.heap.size + 1, 0, none⟩)] 63) := ⟨_, rfl⟩
        rw [← hw3]
        have hb3 : Below wr.heap.size wr w3 := by rw [hw3]; exact hb2.alloc hb2.size _
        have hc3 : CellsAt w3 w2.heap.size #[.pointer (some ⟨wr.heap.size + 1, 0, none⟩)] 63 := by rw [hw3]; exact heap_at rfl
        have hv3 : VolAt w3 (wr.heap.size + 1) wr.heap.size u := by rw [hw3]; exact hv2.keeps (F := fun _ => False) ((Keeps.refl _ w2).alloc _) (fun h => h) (fun h => h) (fun _ _ _ h => h)
        have y3 : w3.cell? ⟨p, 0, none⟩ = some (.int .i64 u.id) := (hb3.cell (p := ⟨p, 0, none⟩) (by show p < _; omega)).trans q0
        have yc3 : w3.cell? ⟨w.heap.size, 0, none⟩ = some (.slice ra rn rc) := (hb3.cell (p := ⟨w.heap.size, 0, none⟩) (by show w.heap.size < _; omega)).trans qc
        clear hw3 hv2
        have hSx := y3
        refine hK.out _ _ hSx (fun hHeld => ?_)
        clear hK K
        refine wpAnyH_ready (rs := [12]) (by kernel_rfl) (by simp) ?_
        refine AllReadyH.cons ops_at12 (fun K hK => ?_) AllReadyH.nil
        rw [if_pos (by rfl)]
        have hm3 := HMr.out.below hb3
        refine wp_append_at w3 (.tmp 25) (.tmp 32) 51 rfl 0 63 i0 _ 1 8 Try.underlying51 HI.out HZ0.out HZ1.out HZ2.out rfl (by decide) (.slice ra rn rc) psk.length (ptrs psk) rfl hm3.row ⟨w2.heap.size, 0, none⟩ 1 1 [.pointer (some ⟨wr.heap.size + 1, 0, none⟩)] rfl rfl (fun j x hj => by rw [Addr.add_mid, Nat.zero_add]; exact (hc3.cell j).trans (by simpa using hj)) (by simp [Value.oneCell']) (by unfold maxLen; omega) (by omega) (Nat.zero_le _) ?_
        intro v4 w4 hown4 hgrow4 hblk4
        obtain ⟨g4, c4, rfl⟩ := ownsRow_succ hown4
        have hk4 : Keeps (fun x => (Value.slice ra rn rc).ownBlock = some x) w3 w4 := Keeps.of_grown hgrow4 (fun x hx => hx)
        have hOc : ¬ (Value.slice ra rn rc).ownBlock = some w.heap.size := fun e => by obtain ⟨cur, hc⟩ := rowBlock hm3.row e; have := hm3.head; unfold CellsAt at this; rw [this] at hc; simp at hc
        have hOp : ¬ (Value.slice ra rn rc).ownBlock = some p := fun e => by have := HNr.out p (.inr (.inl e)); omega
        have y4 : w4.cell? ⟨p, 0, none⟩ = some (.int .i64 u.id) := (hk4.cell (p := ⟨p, 0, none⟩) (block_lt y3) hOp).trans y3
        have yc4 : w4.cell? ⟨w.heap.size, 0, none⟩ = some (.slice ra rn rc) := (hk4.cell (p := ⟨w.heap.size, 0, none⟩) (block_lt yc3) hOc).trans yc3
        have yf4 : w4.frozen? ⟨w.heap.size, 0, none⟩ = false := (hk4.frozen (p := ⟨w.heap.size, 0, none⟩) (block_lt yc3) hOc).trans (hm3.head.free 0)
        have hpush := push_at hm3 hv3 (fun ho => by have := HMr.out.lt _ ho; omega) (fun ho => by have := HMr.out.lt _ ho; omega) hk4 hown4 (by
          rcases hblk4 with e | e
          · exact .inl e
          · exact .inr ⟨_, e, Nat.le_refl _⟩)
        have hkw4 : Keeps (fun _ => False) w (w4.setCell ⟨w.heap.size, 0, none⟩ (.slice (some ⟨g4, 0, none⟩) (psk.length + 1) c4)) := (HKr.out.trans (Keeps.of_below (F := fun _ => False) hb3) (fun _ _ h => h)).trans hpush.2.1 (fun x hx ho => by have := HNr.out x ho; omega)
        have hnew4 : ∀ x, Own w.heap.size (.slice (some ⟨g4, 0, none⟩) (psk.length + 1) c4) (psk ++ [(wr.heap.size + 1, wr.heap.size)]) x → w.heap.size ≤ x := fun x hx => by
          rcases hpush.2.2 x hx with e | e | e | e
          · exact HNr.out x e
          · omega
          · omega
          · have := hb3.size; omega
        have HPU := Lib.hid hpush.1; clear hpush
        have HKW4 := Lib.hid hkw4; clear hkw4
        have HNW4 := Lib.hid hnew4; clear hnew4 hown4 hgrow4 hblk4 hm3 hb3 hc3 hv3
        go_simp
        refine hK.out _ _ y4 (fun hHeld => ?_)
        clear hK K
        refine wpAnyH_take (i := 13) (v := (.pointer (some ⟨w.heap.size, 0, none⟩))) ops_at13 (by kernel_rfl) (by kernel_rfl) (by kernel_rfl) (fun _ _ _ h => h) (Or.inl ⟨by rfl, fun V hV => ?_⟩) hHeld ?_
        · go_simp
        simp only [Act.put, List.setIfInBounds_toArray, List.set_cons_zero, List.set_cons_succ]
        refine wpAnyH_take (i := 14) (v := (.pointer (some ⟨w.heap.size, 0, none⟩))) ops_at14 (by kernel_rfl) (by kernel_rfl) (by kernel_rfl) (fun _ _ _ h => h) (Or.inl ⟨by rfl, fun V hV => ?_⟩) hHeld ?_
        · go_simp
        simp only [Act.put, List.setIfInBounds_toArray, List.set_cons_zero, List.set_cons_succ]
        refine wpAnyH_ready (rs := [15]) (by kernel_rfl) (by simp) ?_
        refine AllReadyH.cons ops_at15 (fun K hK => ?_) AllReadyH.nil
        rw [if_pos (by rfl)]
        go_simp
        have z4 : (w4.setCell ⟨w.heap.size, 0, none⟩ (.slice (some ⟨g4, 0, none⟩) (psk.length + 1) c4)).cell? ⟨p, 0, none⟩ = some (.int .i64 u.id) := (World.cell?_setCell_far w4 ⟨w.heap.size, 0, none⟩ ⟨p, 0, none⟩ _ (by show w.heap.size ≠ p; omega)).trans y4
        refine hK.out _ _ z4 (fun hHeld => ?_)
        clear hK K
        refine wpAnyH_done (by kernel_rfl) ?_ _
        go_wp2
        go_roundw
        case rel =>
          refine ⟨k + 1, by omega, by simp, _, _, by rw [List.length_append, HPL.out]; rfl, ?_, HKW4.out, HNW4.out⟩
          have := HPU.out
          rw [show (Mo.push ⟨S.vols.take k, S.next⟩ u) = ⟨S.vols.take (k + 1), S.next⟩ by unfold Mo.push; rw [List.take_add_one, HVk.out]; rfl] at this
          exact this
        case measure => simp only [intOf]; omega
      · skip
        rw [if_pos (by rfl)]
        go_simp
        refine HCP.out.mono ?_
        rintro e w2 ⟨rfl, hv2, hb2⟩
        go_wp2_with fail
        have y0 : w2.cell? ⟨p, 0, none⟩ = some (.int .i64 u.id) := (hb2.cell (p := ⟨p, 0, none⟩) (by show p < _; omega)).trans q0
        have yc : w2.cell? ⟨w.heap.size, 0, none⟩ = some (.slice ra rn rc) := (hb2.cell (p := ⟨w.heap.size, 0, none⟩) (by show w.heap.size < _; omega)).trans qc
        have hSx := y0
        refine hK.out _ _ hSx (fun hHeld => ?_)
        clear hK K
        refine wpAnyH_ready (rs := [4, 11]) (by kernel_rfl) (by simp) ?_
        refine AllReadyH.cons ops_at4 (fun K hK => ?_) (AllReadyH.cons ops_at11 (fun K hK => ?_) AllReadyH.nil)
        · skip
          rw [if_pos (by rfl)]
          go_simp
          refine hK.out _ _ hSx (fun hHeld => ?_)
          clear hK K
          refine wpAnyH_ready (rs := [11]) (by kernel_rfl) (by simp) ?_
          refine AllReadyH.cons ops_at11 (fun K hK => ?_) AllReadyH.nil
          rw [if_pos (by rfl)]
          go_simp
          obtain ⟨w3, hw3⟩ : ∃ w3, w3 = w2.alloc (.cells #[.pointer (some ⟨wr.heap.size + 1, 0, none⟩)] 63) := ⟨_, rfl⟩
          rw [← hw3]
          have hb3 : Below wr.heap.size wr w3 := by rw [hw3]; exact hb2.alloc hb2.size _
          have hc3 : CellsAt w3 w2.heap.size #[.pointer (some ⟨wr.heap.size + 1, 0, none⟩)] 63 := by rw [hw3]; exact heap_at rfl
          have hv3 : VolAt w3 (wr.heap.size + 1) wr.heap.size u := by rw [hw3]; exact hv2.keeps (F := fun _ => False) ((Keeps.refl _ w2).alloc _) (fun h => h) (fun h => h) (fun _ _ _ h => h)
          have y3 : w3.cell? ⟨p, 0, none⟩ = some (.int .i64 u.id) := (hb3.cell (p := ⟨p, 0, none⟩) (by show p < _; omega)).trans q0
          have yc3 : w3.cell? ⟨w.heap.size, 0, none⟩ = some (.slice ra rn rc) := (hb3.cell (p := ⟨w.heap.size, 0, none⟩) (by show w.heap.size < _; omega)).trans qc
          clear hw3 hv2
          have hSx := y3
          refine hK.out _ _ hSx (fun hHeld => ?_)
          clear hK K
          refine wpAnyH_ready (rs := [12]) (by kernel_rfl) (by simp) ?_
          refine AllReadyH.cons ops_at12 (fun K hK => ?_) AllReadyH.nil
          rw [if_pos (by rfl)]
          have hm3 := HMr.out.below hb3
          refine wp_append_at w3 (.tmp 25) (.tmp 32) 51 rfl 0 63 i0 _ 1 8 Try.underlying51 HI.out HZ0.out HZ1.out HZ2.out rfl (by decide) (.slice ra rn rc) psk.length (ptrs psk) rfl hm3.row ⟨w2.heap.size, 0, none⟩ 1 1 [.pointer (some ⟨wr.heap.size + 1, 0, none⟩)] rfl rfl (fun j x hj => by rw [Addr.add_mid, Nat.zero_add]; exact (hc3.cell j).trans (by simpa using hj)) (by simp [Value.oneCell']) (by unfold maxLen; omega) (by omega) (Nat.zero_le _) ?_
          intro v4 w4 hown4 hgrow4 hblk4
          obtain ⟨g4, c4, rfl⟩ := ownsRow_succ hown4
          have hk4 : Keeps (fun x => (Value.slice ra rn rc).ownBlock = some x) w3 w4 := Keeps.of_grown hgrow4 (fun x hx => hx)
          have hOc : ¬ (Value.slice ra rn rc).ownBlock = some w.heap.size := fun e => by obtain ⟨cur, hc⟩ := rowBlock hm3.row e; have := hm3.head; unfold CellsAt at this; rw [this] at hc; simp at hc
          have hOp : ¬ (Value.slice ra rn rc).ownBlock = some p := fun e => by have := HNr.out p (.inr (.inl e)); omega
          have y4 : w4.cell? ⟨p, 0, none⟩ = some (.int .i64 u.id) := (hk4.cell (p := ⟨p, 0, none⟩) (block_lt y3) hOp).trans y3
          have yc4 : w4.cell? ⟨w.heap.size, 0, none⟩ = some (.slice ra rn rc) := (hk4.cell (p := ⟨w.heap.size, 0, none⟩) (block_lt yc3) hOc).trans yc3
          have yf4 : w4.frozen? ⟨w.heap.size, 0, none⟩ = false := (hk4.frozen (p := ⟨w.heap.size, 0, none⟩) (block_lt yc3) hOc).trans (hm3.head.free 0)
          have hpush := push_at hm3 hv3 (fun ho => by have := HMr.out.lt _ ho; omega) (fun ho => by have := HMr.out.lt _ ho; omega) hk4 hown4 (by
            rcases hblk4 with e | e
            · exact .inl e
            · exact .inr ⟨_, e, Nat.le_refl _⟩)
          have hkw4 : Keeps (fun _ => False) w (w4.setCell ⟨w.heap.size, 0, none⟩ (.slice (some ⟨g4, 0, none⟩) (psk.length + 1) c4)) := (HKr.out.trans (Keeps.of_below (F := fun _ => False) hb3) (fun _ _ h => h)).trans hpush.2.1 (fun x hx ho => by have := HNr.out x ho; omega)
          have hnew4 : ∀ x, Own w.heap.size (.slice (some ⟨g4, 0, none⟩) (psk.length + 1) c4) (psk ++ [(wr.heap.size + 1, wr.heap.size)]) x → w.heap.size ≤ x := fun x hx => by
            rcases hpush.2.2 x hx with e | e | e | e
            · exact HNr.out x e
            · omega
            · omega
            · have := hb3.size; omega
          have HPU := Lib.hid hpush.1; clear hpush
          have HKW4 := Lib.hid hkw4; clear hkw4
          have HNW4 := Lib.hid hnew4; clear hnew4 hown4 hgrow4 hblk4 hm3 hb3 hc3 hv3
          go_simp
          refine hK.out _ _ y4 (fun hHeld => ?_)
          clear hK K
          refine wpAnyH_take (i := 13) (v := (.pointer (some ⟨w.heap.size, 0, none⟩))) ops_at13 (by kernel_rfl) (by kernel_rfl) (by kernel_rfl) (fun _ _ _ h => h) (Or.inl ⟨by rfl, fun V hV => ?_⟩) hHeld ?_
          · go_simp
          simp only [Act.put, List.setIfInBounds_toArray, List.set_cons_zero, List.set_cons_succ]
          refine wpAnyH_take (i := 14) (v := (.pointer (some ⟨w.heap.size, 0, none⟩))) ops_at14 (by kernel_rfl) (by kernel_rfl) (by kernel_rfl) (fun _ _ _ h => h) (Or.inl ⟨by rfl, fun V hV => ?_⟩) hHeld ?_
          · go_simp
          simp only [Act.put, List.setIfInBounds_toArray, List.set_cons_zero, List.set_cons_succ]
          refine wpAnyH_ready (rs := [15]) (by kernel_rfl) (by simp) ?_
          refine AllReadyH.cons ops_at15 (fun K hK => ?_) AllReadyH.nil
          rw [if_pos (by rfl)]
          go_simp
          have z4 : (w4.setCell ⟨w.heap.size, 0, none⟩ (.slice (some ⟨g4, 0, none⟩) (psk.length + 1) c4)).cell? ⟨p, 0, none⟩ = some (.int .i64 u.id) := (World.cell?_setCell_far w4 ⟨w.heap.size, 0, none⟩ ⟨p, 0, none⟩ _ (by show w.heap.size ≠ p; omega)).trans y4
          refine hK.out _ _ z4 (fun hHeld => ?_)
          clear hK K
          refine wpAnyH_done (by kernel_rfl) ?_ _
          go_wp2
          go_roundw
          case rel =>
            refine ⟨k + 1, by omega, by simp, _, _, by rw [List.length_append, HPL.out]; rfl, ?_, HKW4.out, HNW4.out⟩
            have := HPU.out
            rw [show (Mo.push ⟨S.vols.take k, S.next⟩ u) = ⟨S.vols.take (k + 1), S.next⟩ by unfold Mo.push; rw [List.take_add_one, HVk.out]; rfl] at this
            exact this
          case measure => simp only [intOf]; omega
        · skip
          rw [if_pos (by rfl)]
          go_simp
          obtain ⟨w3, hw3⟩ : ∃ w3, w3 = w2.alloc (.cells #[.pointer (some ⟨wr.heap.size + 1, 0, none⟩)] 63) := ⟨_, rfl⟩
          rw [← hw3]
          have hb3 : Below wr.heap.size wr w3 := by rw [hw3]; exact hb2.alloc hb2.size _
          have hc3 : CellsAt w3 w2.heap.size #[.pointer (some ⟨wr.heap.size + 1, 0, none⟩)] 63 := by rw [hw3]; exact heap_at rfl
          have hv3 : VolAt w3 (wr.heap.size + 1) wr.heap.size u := by rw [hw3]; exact hv2.keeps (F := fun _ => False) ((Keeps.refl _ w2).alloc _) (fun h => h) (fun h => h) (fun _ _ _ h => h)
          have y3 : w3.cell? ⟨p, 0, none⟩ = some (.int .i64 u.id) := (hb3.cell (p := ⟨p, 0, none⟩) (by show p < _; omega)).trans q0
          have yc3 : w3.cell? ⟨w.heap.size, 0, none⟩ = some (.slice ra rn rc) := (hb3.cell (p := ⟨w.heap.size, 0, none⟩) (by show w.heap.size < _; omega)).trans qc
          clear hw3 hv2
          have hSx := y3
          refine hK.out _ _ hSx (fun hHeld => ?_)
          clear hK K
          refine wpAnyH_ready (rs := [4]) (by kernel_rfl) (by simp) ?_
          refine AllReadyH.cons ops_at4 (fun K hK => ?_) AllReadyH.nil
          rw [if_pos (by rfl)]
          go_simp
          refine hK.out _ _ hSx (fun hHeld => ?_)
          clear hK K
          refine wpAnyH_ready (rs := [12]) (by kernel_rfl) (by simp) ?_
          refine AllReadyH.cons ops_at12 (fun K hK => ?_) AllReadyH.nil
          rw [if_pos (by rfl)]
          have hm3 := HMr.out.below hb3
          refine wp_append_at w3 (.tmp 25) (.tmp 32) 51 rfl 0 63 i0 _ 1 8 Try.underlying51 HI.out HZ0.out HZ1.out HZ2.out rfl (by decide) (.slice ra rn rc) psk.length (ptrs psk) rfl hm3.row ⟨w2.heap.size, 0, none⟩ 1 1 [.pointer (some ⟨wr.heap.size + 1, 0, none⟩)] rfl rfl (fun j x hj => by rw [Addr.add_mid, Nat.zero_add]; exact (hc3.cell j).trans (by simpa using hj)) (by simp [Value.oneCell']) (by unfold maxLen; omega) (by omega) (Nat.zero_le _) ?_
          intro v4 w4 hown4 hgrow4 hblk4
          obtain ⟨g4, c4, rfl⟩ := ownsRow_succ hown4
          have hk4 : Keeps (fun x => (Value.slice ra rn rc).ownBlock = some x) w3 w4 := Keeps.of_grown hgrow4 (fun x hx => hx)
          have hOc : ¬ (Value.slice ra rn rc).ownBlock = some w.heap.size := fun e => by obtain ⟨cur, hc⟩ := rowBlock hm3.row e; have := hm3.head; unfold CellsAt at this; rw [this] at hc; simp at hc
          have hOp : ¬ (Value.slice ra rn rc).ownBlock = some p := fun e => by have := HNr.out p (.inr (.inl e)); omega
          have y4 : w4.cell? ⟨p, 0, none⟩ = some (.int .i64 u.id) := (hk4.cell (p := ⟨p, 0, none⟩) (block_lt y3) hOp).trans y3
          have yc4 : w4.cell? ⟨w.heap.size, 0, none⟩ = some (.slice ra rn rc) := (hk4.cell (p := ⟨w.heap.size, 0, none⟩) (block_lt yc3) hOc).trans yc3
          have yf4 : w4.frozen? ⟨w.heap.size, 0, none⟩ = false := (hk4.frozen (p := ⟨w.heap.size, 0, none⟩) (block_lt yc3) hOc).trans (hm3.head.free 0)
          have hpush := push_at hm3 hv3 (fun ho => by have := HMr.out.lt _ ho; omega) (fun ho => by have := HMr.out.lt _ ho; omega) hk4 hown4 (by
            rcases hblk4 with e | e
            · exact .inl e
            · exact .inr ⟨_, e, Nat.le_refl _⟩)
          have hkw4 : Keeps (fun _ => False) w (w4.setCell ⟨w.heap.size, 0, none⟩ (.slice (some ⟨g4, 0, none⟩) (psk.length + 1) c4)) := (HKr.out.trans (Keeps.of_below (F := fun _ => False) hb3) (fun _ _ h => h)).trans hpush.2.1 (fun x hx ho => by have := HNr.out x ho; omega)
          have hnew4 : ∀ x, Own w.heap.size (.slice (some ⟨g4, 0, none⟩) (psk.length + 1) c4) (psk ++ [(wr.heap.size + 1, wr.heap.size)]) x → w.heap.size ≤ x := fun x hx => by
            rcases hpush.2.2 x hx with e | e | e | e
            · exact HNr.out x e
            · omega
            · omega
            · have := hb3.size; omega
          have HPU := Lib.hid hpush.1; clear hpush
          have HKW4 := Lib.hid hkw4; clear hkw4
          have HNW4 := Lib.hid hnew4; clear hnew4 hown4 hgrow4 hblk4 hm3 hb3 hc3 hv3
          go_simp
          refine hK.out _ _ y4 (fun hHeld => ?_)
          clear hK K
          refine wpAnyH_take (i := 13) (v := (.pointer (some ⟨w.heap.size, 0, none⟩))) ops_at13 (by kernel_rfl) (by kernel_rfl) (by kernel_rfl) (fun _ _ _ h => h) (Or.inl ⟨by rfl, fun V hV => ?_⟩) hHeld ?_
          · go_simp
          simp only [Act.put, List.setIfInBounds_toArray, List.set_cons_zero, List.set_cons_succ]
          refine wpAnyH_take (i := 14) (v := (.pointer (some ⟨w.heap.size, 0, none⟩))) ops_at14 (by kernel_rfl) (by kernel_rfl) (by kernel_rfl) (fun _ _ _ h => h) (Or.inl ⟨by rfl, fun V hV => ?_⟩) hHeld ?_
          · go_simp
          simp only [Act.put, List.setIfInBounds_toArray, List.set_cons_zero, List.set_cons_succ]
          refine wpAnyH_ready (rs := [15]) (by kernel_rfl) (by simp) ?_
          refine AllReadyH.cons ops_at15 (fun K hK => ?_) AllReadyH.nil
          rw [if_pos (by rfl)]
          go_simp
          have z4 : (w4.setCell ⟨w.heap.size, 0, none⟩ (.slice (some ⟨g4, 0, none⟩) (psk.length + 1) c4)).cell? ⟨p, 0, none⟩ = some (.int .i64 u.id) := (World.cell?_setCell_far w4 ⟨w.heap.size, 0, none⟩ ⟨p, 0, none⟩ _ (by show w.heap.size ≠ p; omega)).trans y4
          refine hK.out _ _ z4 (fun hHeld => ?_)
          clear hK K
          refine wpAnyH_done (by kernel_rfl) ?_ _
          go_wp2
          go_roundw
          case rel =>
            refine ⟨k + 1, by omega, by simp, _, _, by rw [List.length_append, HPL.out]; rfl, ?_, HKW4.out, HNW4.out⟩
            have := HPU.out
            rw [show (Mo.push ⟨S.vols.take k, S.next⟩ u) = ⟨S.vols.take (k + 1), S.next⟩ by unfold Mo.push; rw [List.take_add_one, HVk.out]; rfl] at this
            exact this
          case measure => simp only [intOf]; omega
end Go.Proofs.Ytmanldcohbegkaa
