/-
  The model: change: list. (Written by gen_mdlist.py.)
-/
import Derived.Test.YtmanldcohbegkaaMdChangeB
namespace Go.Proofs.Ytmanldcohbegkaa
open Go.RowKit

theorem listS_append : ∀ (a b : List Vo), listS (a ++ b) = listS a ++ listS b
  | [], b => rfl
  | v :: a, b => by simp only [List.cons_append, listS]; rw [listS_append a b]; simp only [List.append_assoc]
theorem listS_length : ∀ (a : List Vo), (listS a).length = 8 * a.length
  | [] => rfl
  | v :: a => by simp only [listS, List.length_append, listS_length a, List.length_cons, fourB, List.length_nil]; omega
theorem listS_next (l : List Vo) (k : Nat) (v : Vo) (h : l[k]? = some v) : listS (l.take (k + 1)) = listS (l.take k) ++ fourB v.id.toNat ++ fourB v.size.toNat := by
  rw [List.take_add_one, h, listS_append, Option.toList_some]
  simp only [listS, List.append_nil, List.append_assoc]

set_option maxRecDepth 100000 in
set_option maxHeartbeats 6400000 in
theorem change_list [Zs] (m : Nat) (rv : Value) (ps : List (Nat × Nat)) (S : Mo) (t : Tk) (dv : Value) (w : World) (h : ModelIs w m rv ps S) (hlen : ps.length ≤ 8) (hop : t.op = 10) (hids : ∀ v ∈ S.vols, 0 ≤ v.id ∧ v.id < 2147483648 ∧ 0 ≤ v.size ∧ v.size < 2147483648) :
    Calls Try.prog 25 #[.pointer (some ⟨m, 0, none⟩), .agg (t.cells dv)] w (ChPost w m rv ps (changeS S t)) := by
  have hb1 : Below w.heap.size w (w.alloc (.cells (t.cells dv) 30)) := allocBelow w _
  have HF := Lib.hid (find_any m rv ps S t.vol _ (h.below hb1) hlen)
  have hml := h.head.lt
  obtain ⟨pv, hpv⟩ : ∃ pv, pv = ptrOf ps (S.find t.vol) := ⟨_, rfl⟩
  rw [← hpv] at HF
  clear hpv
  have c0 := fun j => (CellsAt.new w (t.cells dv) 30).cell j
  have HC0 := Lib.hid c0
  have HM := Lib.hid h
  clear h c0
  unfold Tk.cells at HC0 HF ⊢
  rw [hop] at HC0 HF ⊢
  go_enter Try.func25, Try.ntmps25
  go_wp2_with fail
  refine HF.out.mono ?_
  rintro e w1 ⟨rfl, hb2⟩
  have hz1 : w.heap.size + 1 ≤ w1.heap.size := by have := hb2.size; simpa using this
  have hk1 : Keeps (fun _ => False) w w1 := ((Keeps.refl _ w).alloc _).trans (Keeps.of_below hb2) (fun _ _ h => h)
  have c1 := fun j => (hb2.cell (p := ⟨w.heap.size, j, none⟩) (by simp)).trans (HC0.out j)
  have HM1 := Lib.hid (HM.out.keeps hk1 (fun _ _ h => h) (fun _ _ _ h => h))
  have HK1 := Lib.hid hk1; clear hk1 hb2
  have hT1 : w.heap.size < w1.heap.size := by omega
  have e2 := fun o => (World.cell?_alloc_lt w1 o ⟨w.heap.size, 2, none⟩ hT1).trans (c1 2)
  have e6 := fun o => (World.cell?_alloc_lt w1 o ⟨w.heap.size, 6, none⟩ hT1).trans (c1 6)
  have e7 := fun o => (World.cell?_alloc_lt w1 o ⟨w.heap.size, 7, none⟩ hT1).trans (c1 7)
  have e8 := fun o => (World.cell?_alloc_lt w1 o ⟨w.heap.size, 8, none⟩ hT1).trans (c1 8)
  have e9 := fun o => (World.cell?_alloc_lt w1 o ⟨w.heap.size, 9, none⟩ hT1).trans (c1 9)
  simp only [List.getElem?_toArray, List.getElem?_cons_zero, List.getElem?_cons_succ] at e2 e6 e7 e8 e9
  clear c1
  have hml1 : m < w1.heap.size := by omega
  have hm0 := HM1.out.head.cell 0
  simp only [Mo.cells, List.getElem?_toArray, List.getElem?_cons_zero] at hm0
  have m0 := fun o => (World.cell?_alloc_lt w1 o ⟨m, 0, none⟩ hml1).trans hm0
  have hkb : Keeps (fun _ => False) w (w1.alloc (.cells #[.pointer pv] 63)) := HK1.out.alloc _
  have HKB := Lib.hid hkb; clear hkb
  have HIDS := Lib.hid hids; clear hids
  have hfin1 : (changeS S t).1 = listS S.vols := by simp [changeS, hop]
  have hfin2 : (changeS S t).2 = S := by simp [changeS, hop]
  have HF1 := Lib.hid hfin1; clear hfin1
  have HF2 := Lib.hid hfin2; clear hfin2
  rcases HM.out.rowForm with ⟨e, e2⟩ | ⟨g, cap, e, hgl, hcap⟩
  · subst e e2
    have hv0 : S.vols = [] := List.eq_nil_of_length_eq_zero HM.out.len.symm
    go_wp2_with fail
    go_loopw [6, 73] (fun o j wr => o = .slice none 0 0 ∧ j = .int .i64 0 ∧ Keeps (fun _ => False) w wr) (fun _ _ _ => 0)
    case atStart => exact ⟨rfl, rfl, HKB.out⟩
    case round =>
      obtain ⟨rfl, rfl, hkr⟩ := hrel
      have HKr := Lib.hid hkr; clear hkr
      go_wp2
      go_ret
      refine ⟨_, .slice none 0 0, [], rfl, ?_, ?_⟩
      · rw [HF1.out, hv0]; exact Owns.nil _ _
      · rw [HF2.out]; exact ⟨HM.out.keeps HKr.out (fun _ _ h => h) (fun _ _ _ h => h), HKr.out.mono (fun _ _ h => h.elim), fun k hk => .inl hk⟩
  · subst e
    obtain ⟨n, hn⟩ : ∃ n, n = ps.length := ⟨_, rfl⟩
    rw [← hn] at hm0 m0
    have hn1 : n ≤ ps.length := by omega
    have hn2 : ps.length ≤ n := by omega
    clear hn
    clear hm0
    go_wp2_with fail
    go_loopw [6, 73] (fun o j wr => ∃ k : Nat, k ≤ n ∧ j = .int .i64 (k : Int) ∧ ∃ ra rn rc, o = .slice ra rn rc ∧ Owns w.heap.size wr (.slice ra rn rc) (listS (S.vols.take k)) ∧ Keeps (fun _ => False) w wr) (fun _ j _ => n - (intOf j).toNat)
    case atStart => exact ⟨0, by omega, rfl, none, 0, 0, rfl, by rw [List.take_zero]; exact Owns.nil _ _, HKB.out⟩
    case round =>
      obtain ⟨k, hk, rfl, ra, rn, rc, rfl, hown, hkr⟩ := hrel
      have HO := Lib.hid hown; clear hown
      have HKr := Lib.hid hkr; clear hkr
      by_cases hlt : k < n
      case neg =>
        obtain rfl : k = n := by omega
        have hkk : ¬ (k : Int) < (k : Int) := by omega
        go_wp2
        go_ret
        refine ⟨_, .slice (some ⟨g, 0, none⟩) ps.length cap, ps, rfl, ?_, ?_⟩
        · rw [HF1.out]
          have := HO.out
          rw [List.take_of_length_le (by rw [← HM.out.len]; omega)] at this
          exact this
        · rw [HF2.out]; exact ⟨HM.out.keeps HKr.out (fun _ _ h => h) (fun _ _ _ h => h), HKr.out.mono (fun _ _ h => h.elim), fun k hk => .inl hk⟩
      have hkn : (k : Int) < (n : Int) := by omega
      have hk0 : (0 : Int) ≤ (k : Int) := by omega
      obtain ⟨q, hq⟩ : ∃ q, ps[k]? = some q := ⟨ps[k]'(by omega), by simp [show k < ps.length by omega]⟩
      have hx1 : wr.cell? ⟨g, k, none⟩ = some (.pointer (some ⟨q.1, 0, none⟩)) := (HKr.out.cell (p := ⟨g, k, none⟩) hgl (fun h => h)).trans (HM.out.rowCell rfl hq)
      obtain ⟨i, v, hi, hv, hvol⟩ := HM.out.volOf (List.mem_of_getElem? hq)
      obtain ⟨u, hu⟩ : ∃ u, S.vols[k]? = some u := ⟨S.vols[k]'(by rw [← HM.out.len]; omega), by simp [show k < S.vols.length by rw [← HM.out.len]; omega]⟩
      have hvk := HM.out.vol k q u hq hu
      have hql : q.1 < w.heap.size := hvk.str.lt
      obtain ⟨b1, b2, b3, b4⟩ := HIDS.out u (List.mem_of_getElem? hu)
      obtain ⟨a, ha⟩ : ∃ a : Nat, u.id = (a : Int) := ⟨u.id.toNat, by omega⟩
      obtain ⟨c, hc⟩ : ∃ c : Nat, u.size = (c : Int) := ⟨u.size.toNat, by omega⟩
      have q0 := (HKr.out.cell (p := ⟨q.1, 0, none⟩) hql (fun h => h)).trans (hvk.str.cell 0)
      have q1 := (HKr.out.cell (p := ⟨q.1, 1, none⟩) hql (fun h => h)).trans (hvk.str.cell 1)
      simp only [Vo.cells, List.getElem?_toArray, List.getElem?_cons_zero, List.getElem?_cons_succ] at q0 q1
      rw [ha] at q0 b2
      rw [hc] at q1 b4
      have HVk := Lib.hid hu; clear hu
      have HA := Lib.hid ha; clear ha
      have HC := Lib.hid hc; clear hc
      clear hq hi hv hvol hvk b1 b3
      go_upto_region 18 with fail
      refine wp_region_held_drew (S := fun V => V.cell? ⟨q.1, 0, none⟩ = some (.int .i64 (a : Int)) ∧ V.cell? ⟨q.1, 1, none⟩ = some (.int .i64 (c : Int))) (by kernel_rfl) ⟨q0, q1⟩ (fun hHeld => ?_)
      refine wpAnyH_take (i := 0) (v := .slice ra rn rc) ops_at0 (by kernel_rfl) (by kernel_rfl) (by kernel_rfl) (fun _ _ _ h => h) (Or.inl ⟨by rfl, fun V hV => ?_⟩) hHeld ?_
      · go_simp
      simp only [Act.put, List.setIfInBounds_toArray, List.set_cons_zero, List.set_cons_succ]
      refine wpAnyH_take (i := 1) (v := (.pointer (some ⟨q.1, 0, none⟩))) ops_at1 (by kernel_rfl) (by kernel_rfl) (by kernel_rfl) (fun _ _ _ h => h) (Or.inl ⟨by rfl, fun V hV => ?_⟩) hHeld ?_
      · go_simp
      simp only [Act.put, List.setIfInBounds_toArray, List.set_cons_zero, List.set_cons_succ]
      refine wpAnyH_take (i := 2) (v := (.pointer (some ⟨q.1, 0, none⟩))) ops_at2 (by kernel_rfl) (by kernel_rfl) (by kernel_rfl) (fun _ _ _ h => h) (Or.inl ⟨by rfl, fun V hV => ?_⟩) hHeld ?_
      · go_simp
      simp only [Act.put, List.setIfInBounds_toArray, List.set_cons_zero, List.set_cons_succ]
      refine wpAnyH_take (i := 3) (v := .pointer (some ⟨q.1, 0, none⟩)) ops_at3 (by kernel_rfl) (by kernel_rfl) (by kernel_rfl) (fun _ _ _ h => h) (Or.inl ⟨by rfl, fun V hV => ?_⟩) hHeld ?_
      · go_simp
      simp only [Act.put, List.setIfInBounds_toArray, List.set_cons_zero, List.set_cons_succ]
      refine wpAnyH_take (i := 4) (v := .int .i64 (a : Int)) ops_at4 (by kernel_rfl) (by kernel_rfl) (by kernel_rfl) (fun _ _ _ h => h) (Or.inl ⟨by rfl, fun V hV => ?_⟩) hHeld ?_
      · obtain ⟨x0, x1⟩ := hV
        go_simp
      simp only [Act.put, List.setIfInBounds_toArray, List.set_cons_zero, List.set_cons_succ]
      refine wpAnyH_take (i := 6) (v := (.pointer (some ⟨q.1, 0, none⟩))) ops_at6 (by kernel_rfl) (by kernel_rfl) (by kernel_rfl) (fun _ _ _ h => h) (Or.inl ⟨by rfl, fun V hV => ?_⟩) hHeld ?_
      · go_simp
      simp only [Act.put, List.setIfInBounds_toArray, List.set_cons_zero, List.set_cons_succ]
      refine wpAnyH_take (i := 7) (v := (.pointer (some ⟨q.1, 0, none⟩))) ops_at7 (by kernel_rfl) (by kernel_rfl) (by kernel_rfl) (fun _ _ _ h => h) (Or.inl ⟨by rfl, fun V hV => ?_⟩) hHeld ?_
      · go_simp
      simp only [Act.put, List.setIfInBounds_toArray, List.set_cons_zero, List.set_cons_succ]
      refine wpAnyH_take (i := 8) (v := .pointer (some ⟨q.1, 1, none⟩)) ops_at8 (by kernel_rfl) (by kernel_rfl) (by kernel_rfl) (fun _ _ _ h => h) (Or.inl ⟨by rfl, fun V hV => ?_⟩) hHeld ?_
      · go_simp
      simp only [Act.put, List.setIfInBounds_toArray, List.set_cons_zero, List.set_cons_succ]
      refine wpAnyH_take (i := 9) (v := .int .i64 (c : Int)) ops_at9 (by kernel_rfl) (by kernel_rfl) (by kernel_rfl) (fun _ _ _ h => h) (Or.inl ⟨by rfl, fun V hV => ?_⟩) hHeld ?_
      · obtain ⟨x0, x1⟩ := hV
        go_simp
      simp only [Act.put, List.setIfInBounds_toArray, List.set_cons_zero, List.set_cons_succ]
      refine wpAnyH_ready (rs := [5]) (by kernel_rfl) (by simp) ?_
      refine AllReadyH.cons ops_at5 (fun K hK => ?_) AllReadyH.nil
      rw [if_pos (by rfl)]
      go_simp
      refine (four_any w.heap.size (.slice ra rn rc) (listS (S.vols.take k)) a wr.drew (World.ownsRow.drew HO.out) (by show _ ≤ wr.heap.size; have := HKr.out.size; omega) (by rw [listS_length, List.length_take]; omega) (by omega)).mono ?_
      rintro e w2 ⟨r2, rfl, hown2, hk2⟩
      obtain ⟨r2a, r2n, r2c, rfl⟩ : ∃ a n c, r2 = .slice a n c := by obtain ⟨a, c, e, _⟩ := hown2.bytes.form; exact ⟨_, _, _, e⟩
      have hk2w : Keeps (fun _ => False) w w2 := (HKr.out.drew).trans hk2 (fun x hx hxx => by have := (HO.out.from x hxx).1; omega)
      have HO2 := Lib.hid hown2; clear hown2
      have HK2 := Lib.hid hk2w; clear hk2w
      have y0 : w2.cell? ⟨q.1, 0, none⟩ = some (.int .i64 (a : Int)) := (hk2.cell (p := ⟨q.1, 0, none⟩) (block_lt q0) (fun e => by have := (HO.out.from _ e).1; have h2 : q.1 < w.heap.size := hql; have h3 : w.heap.size ≤ q.1 := this; omega)).trans q0
      have y1 : w2.cell? ⟨q.1, 1, none⟩ = some (.int .i64 (c : Int)) := (hk2.cell (p := ⟨q.1, 1, none⟩) (block_lt q1) (fun e => by have := (HO.out.from _ e).1; have h2 : q.1 < w.heap.size := hql; have h3 : w.heap.size ≤ q.1 := this; omega)).trans q1
      clear hk2
      go_wp2_with fail
      refine hK.out _ _ ⟨y0, y1⟩ (fun hHeld2 => ?_)
      clear hK K
      refine wpAnyH_ready (rs := [10]) (by kernel_rfl) (by simp) ?_
      refine AllReadyH.cons ops_at10 (fun K hK => ?_) AllReadyH.nil
      rw [if_pos (by rfl)]
      go_simp
      refine (four_any w.heap.size (.slice r2a r2n r2c) (listS (S.vols.take k) ++ fourB a) c w2 HO2.out (by have := HK2.out.size; omega) (by rw [List.length_append, listS_length, List.length_take]; show _ + 4 ≤ _; omega) (by omega)).mono ?_
      rintro e w3 ⟨r3, rfl, hown3, hk3⟩
      obtain ⟨r3a, r3n, r3c, rfl⟩ : ∃ a n c, r3 = .slice a n c := by obtain ⟨a, c, e, _⟩ := hown3.bytes.form; exact ⟨_, _, _, e⟩
      have hk3w : Keeps (fun _ => False) w w3 := HK2.out.trans hk3 (fun x hx hxx => by have := (HO2.out.from x hxx).1; omega)
      have HO3 := Lib.hid hown3; clear hown3
      have HK3 := Lib.hid hk3w; clear hk3w
      have z0 : w3.cell? ⟨q.1, 0, none⟩ = some (.int .i64 (a : Int)) := (hk3.cell (p := ⟨q.1, 0, none⟩) (block_lt y0) (fun e => by have := (HO2.out.from _ e).1; have h2 : q.1 < w.heap.size := hql; have h3 : w.heap.size ≤ q.1 := this; omega)).trans y0
      have z1 : w3.cell? ⟨q.1, 1, none⟩ = some (.int .i64 (c : Int)) := (hk3.cell (p := ⟨q.1, 1, none⟩) (block_lt y1) (fun e => by have := (HO2.out.from _ e).1; have h2 : q.1 < w.heap.size := hql; have h3 : w.heap.size ≤ q.1 := this; omega)).trans y1
      clear hk3
      go_wp2_with fail
      refine hK.out _ _ ⟨z0, z1⟩ (fun hHeld3 => ?_)
      clear hK K
      refine wpAnyH_take (i := 11) (v := .slice r3a r3n r3c) ops_at11 (by kernel_rfl) (by kernel_rfl) (by kernel_rfl) (fun _ _ _ h => h) (Or.inl ⟨by rfl, fun V hV => ?_⟩) hHeld3 ?_
      · go_simp
      simp only [Act.put, List.setIfInBounds_toArray, List.set_cons_zero, List.set_cons_succ]
      refine wpAnyH_done (by kernel_rfl) ?_ _
      go_wp2
      go_roundw
      case rel =>
        refine ⟨k + 1, by omega, by simp, _, _, _, rfl, ?_, HK3.out⟩
        rw [listS_next _ _ _ HVk.out, HA.out, HC.out, Int.toNat_natCast, Int.toNat_natCast]
        exact HO3.out
      case measure => simp only [intOf]; omega
end Go.Proofs.Ytmanldcohbegkaa
