/-
  The model: Volumes; New. (Written by gen_mdvols.py.)
-/
import Derived.Test.YtmanldcohbegkaaMdDo
namespace Go.Proofs.Ytmanldcohbegkaa
open Go.RowKit

theorem Try.info_vol : (Try.prog.info? 45).map (fun i => (i.zero, i.size, i.bytes)) = some (some (.agg #[.int .i64 0, .int .i64 0, .int .i64 0, .int .i64 0, .int .i64 0, .int .i64 0]), 6, 48) := by kernel_rfl
/-- A volume as it is told. -/
def vcell (v : Vo) (n : Nat) : List Value := [.int .i64 v.id, .int .i64 1, .int .i64 v.size, .int .i64 v.quota, .int .i64 0, .int .i64 (n : Int)]
def volsV (l : List Vo) : List Value := l.flatMap fun v => vcell v v.bl.length
theorem volsV_next (l : List Vo) (k : Nat) (v : Vo) (h : l[k]? = some v) : volsV (l.take (k + 1)) = volsV (l.take k) ++ vcell v v.bl.length := by
  unfold volsV
  rw [List.take_add_one, h, List.flatMap_append]
  simp
structure VolS (p b : Nat) (u : Vo) (lm : List (Int × Value)) (V : World) : Prop where
  x0 : V.cell? ⟨p, 0, none⟩ = some (.int .i64 u.id)
  x1 : V.cell? ⟨p, 1, none⟩ = some (.int .i64 u.size)
  x2 : V.cell? ⟨p, 2, none⟩ = some (.int .i64 u.quota)
  x3 : V.cell? ⟨p, 3, none⟩ = some (.map (some b))
  x4 : MapIs V b lm
theorem VolS.keepsF {F : Nat → Prop} {p b : Nat} {u : Vo} {lm : List (Int × Value)} {V V' : World} (h : VolS p b u lm V) (k : Keeps F V V') (hp : ¬ F p) (hb : ¬ F b) : VolS p b u lm V' :=
  ⟨(k.cell (p := ⟨p, 0, none⟩) (block_lt h.x0) hp).trans h.x0, (k.cell (p := ⟨p, 1, none⟩) (block_lt h.x1) hp).trans h.x1, (k.cell (p := ⟨p, 2, none⟩) (block_lt h.x2) hp).trans h.x2, (k.cell (p := ⟨p, 3, none⟩) (block_lt h.x3) hp).trans h.x3, h.x4.keeps k hb⟩
theorem VolS.keeps {p b : Nat} {u : Vo} {lm : List (Int × Value)} {V V' : World} (h : VolS p b u lm V) (k : Keeps (fun _ => False) V V') : VolS p b u lm V' := h.keepsF k (fun h => h) (fun h => h)

set_option maxRecDepth 100000 in
set_option maxHeartbeats 6400000 in
theorem volumes_any [Zs] (m : Nat) (rv : Value) (ps : List (Nat × Nat)) (S : Mo) (w : World) (h : ModelIs w m rv ps S) (hlen : ps.length ≤ 8) :
    Calls Try.prog 17 #[.pointer (some ⟨m, 0, none⟩)] w fun e w' => ∃ r, e = .returned r ∧ w'.ownsRow w.heap.size 45 6 r S.vols.length (volsV S.vols) ∧ Keeps (fun _ => False) w w' := by
  obtain ⟨i0, hi, hz0, hz1, hz2⟩ := info_parts Try.info_vol
  have HI := Lib.hid hi; clear hi
  have HZ0 := Lib.hid hz0; clear hz0
  have HZ1 := Lib.hid hz1; clear hz1
  have HZ2 := Lib.hid hz2; clear hz2
  have hm0 := h.head.cell 0
  simp only [Mo.cells, List.getElem?_toArray, List.getElem?_cons_zero] at hm0
  have HM := Lib.hid h; clear h
  rcases HM.out.rowForm with ⟨e, e2⟩ | ⟨g, cap, e, hgl, hcap⟩
  · subst e e2
    have hv0 : S.vols = [] := List.eq_nil_of_length_eq_zero HM.out.len.symm
    have HV0 := Lib.hid hv0; clear hv0
    go_enter Try.func17, Try.ntmps17
    go_wp2_with fail
    go_loopw [3, 11] (fun o j wr => o = .slice none 0 0 ∧ j = .int .i64 0 ∧ Keeps (fun _ => False) w wr) (fun _ _ _ => 0)
    case atStart => exact ⟨rfl, rfl, Keeps.refl _ _⟩
    case round =>
      obtain ⟨rfl, rfl, hkr⟩ := hrel
      have HKr := Lib.hid hkr; clear hkr
      go_wp2
      go_ret
      exact ⟨_, rfl, by rw [HV0.out]; exact World.ownsRow_nil _ _ _ _, HKr.out⟩
  · subst e
    obtain ⟨n, hn⟩ : ∃ n, n = ps.length := ⟨_, rfl⟩
    rw [← hn] at hm0
    have hn1 : n ≤ ps.length := by omega
    have hn2 : ps.length ≤ n := by omega
    clear hn
    go_enter Try.func17, Try.ntmps17
    go_wp2_with fail
    go_loopw [3, 11] (fun o j wr => ∃ k : Nat, k ≤ n ∧ j = .int .i64 (k : Int) ∧ ∃ ra rn rc, o = .slice ra rn rc ∧ wr.ownsRow w.heap.size 45 6 (.slice ra rn rc) k (volsV (S.vols.take k)) ∧ Keeps (fun _ => False) w wr) (fun _ j _ => n - (intOf j).toNat)
    case atStart => exact ⟨0, by omega, rfl, none, 0, 0, rfl, by rw [List.take_zero]; exact World.ownsRow_nil _ _ _ _, Keeps.refl _ _⟩
    case round =>
      obtain ⟨k, hk, rfl, ra, rn, rc, rfl, hown, hkr⟩ := hrel
      have HO := Lib.hid hown; clear hown
      have HKr := Lib.hid hkr; clear hkr
      by_cases hlt : k < n
      case neg =>
        obtain rfl : k = n := by omega
        have hkk : ¬ (k : Int) < (k : Int) := by omega
        go_wp2
        go_ret
        refine ⟨_, rfl, ?_, HKr.out⟩
        have := HO.out
        rw [List.take_of_length_le (by rw [← HM.out.len]; omega), show k = S.vols.length by rw [← HM.out.len]; omega] at this
        exact this
      have hkn : (k : Int) < (n : Int) := by omega
      have hk0 : (0 : Int) ≤ (k : Int) := by omega
      obtain ⟨q, hq⟩ : ∃ q, ps[k]? = some q := ⟨ps[k]'(by omega), by simp [show k < ps.length by omega]⟩
      obtain ⟨p, b⟩ := q
      have hx1 : wr.cell? ⟨g, k, none⟩ = some (.pointer (some ⟨p, 0, none⟩)) := (HKr.out.cell (p := ⟨g, k, none⟩) hgl (fun h => h)).trans (HM.out.rowCell rfl hq)
      obtain ⟨u, hu⟩ : ∃ u, S.vols[k]? = some u := ⟨S.vols[k]'(by rw [← HM.out.len]; omega), by simp [show k < S.vols.length by rw [← HM.out.len]; omega]⟩
      have hvk := (HM.out.vol k _ u hq hu).keeps HKr.out (fun h => h) (fun h => h) (fun _ _ _ h => h)
      have hpl : p < w.heap.size := (HM.out.vol k _ u hq hu).str.lt
      have hbl : b < w.heap.size := (HM.out.vol k _ u hq hu).map.lt
      obtain ⟨lm, hml, hlm, _⟩ := hvk.map.look
      have q0 := hvk.str.cell 0
      have q1 := hvk.str.cell 1
      have q2 := hvk.str.cell 2
      have q3 := hvk.str.cell 3
      simp only [Vo.cells, List.getElem?_toArray, List.getElem?_cons_zero, List.getElem?_cons_succ] at q0 q1 q2 q3
      have HVk := Lib.hid hu; clear hu
      have HLM := Lib.hid hlm; clear hlm
      clear hq hvk
      go_upto_region 5 with fail
      refine wp_region_held_drew (S := VolS p b u lm) (by kernel_rfl) ⟨q0, q1, q2, q3, hml⟩ (fun hHeld => ?_)
      refine wpAnyH_take (i := 0) (v := .slice ra rn rc) ops_at0 (by kernel_rfl) (by kernel_rfl) (by kernel_rfl) (fun _ _ _ h => h) (Or.inl ⟨by rfl, fun V hV => ?_⟩) hHeld ?_
      · go_simp
      simp only [Act.put, List.setIfInBounds_toArray, List.set_cons_zero, List.set_cons_succ]
      refine wpAnyH_take (i := 1) (v := (.pointer (some ⟨p, 0, none⟩))) ops_at1 (by kernel_rfl) (by kernel_rfl) (by kernel_rfl) (fun _ _ _ h => h) (Or.inl ⟨by rfl, fun V hV => ?_⟩) hHeld ?_
      · go_simp
      simp only [Act.put, List.setIfInBounds_toArray, List.set_cons_zero, List.set_cons_succ]
      refine wpAnyH_take (i := 2) (v := (.pointer (some ⟨p, 0, none⟩))) ops_at2 (by kernel_rfl) (by kernel_rfl) (by kernel_rfl) (fun _ _ _ h => h) (Or.inl ⟨by rfl, fun V hV => ?_⟩) hHeld ?_
      · go_simp
      simp only [Act.put, List.setIfInBounds_toArray, List.set_cons_zero, List.set_cons_succ]
      refine wpAnyH_take (i := 3) (v := .pointer (some ⟨p, 0, none⟩)) ops_at3 (by kernel_rfl) (by kernel_rfl) (by kernel_rfl) (fun _ _ _ h => h) (Or.inl ⟨by rfl, fun V hV => ?_⟩) hHeld ?_
      · go_simp
      simp only [Act.put, List.setIfInBounds_toArray, List.set_cons_zero, List.set_cons_succ]
      refine wpAnyH_take (i := 4) (v := .int .i64 u.id) ops_at4 (by kernel_rfl) (by kernel_rfl) (by kernel_rfl) (fun _ _ _ h => h) (Or.inl ⟨by rfl, fun V hV => ?_⟩) hHeld ?_
      · obtain ⟨x0, x1, x2, x3, x4⟩ := hV
        go_simp
      simp only [Act.put, List.setIfInBounds_toArray, List.set_cons_zero, List.set_cons_succ]
      refine wpAnyH_take (i := 5) (v := (.pointer (some ⟨p, 0, none⟩))) ops_at5 (by kernel_rfl) (by kernel_rfl) (by kernel_rfl) (fun _ _ _ h => h) (Or.inl ⟨by rfl, fun V hV => ?_⟩) hHeld ?_
      · go_simp
      simp only [Act.put, List.setIfInBounds_toArray, List.set_cons_zero, List.set_cons_succ]
      refine wpAnyH_take (i := 6) (v := (.pointer (some ⟨p, 0, none⟩))) ops_at6 (by kernel_rfl) (by kernel_rfl) (by kernel_rfl) (fun _ _ _ h => h) (Or.inl ⟨by rfl, fun V hV => ?_⟩) hHeld ?_
      · go_simp
      simp only [Act.put, List.setIfInBounds_toArray, List.set_cons_zero, List.set_cons_succ]
      refine wpAnyH_take (i := 7) (v := .pointer (some ⟨p, 1, none⟩)) ops_at7 (by kernel_rfl) (by kernel_rfl) (by kernel_rfl) (fun _ _ _ h => h) (Or.inl ⟨by rfl, fun V hV => ?_⟩) hHeld ?_
      · go_simp
      simp only [Act.put, List.setIfInBounds_toArray, List.set_cons_zero, List.set_cons_succ]
      refine wpAnyH_take (i := 8) (v := .int .i64 u.size) ops_at8 (by kernel_rfl) (by kernel_rfl) (by kernel_rfl) (fun _ _ _ h => h) (Or.inl ⟨by rfl, fun V hV => ?_⟩) hHeld ?_
      · obtain ⟨x0, x1, x2, x3, x4⟩ := hV
        go_simp
      simp only [Act.put, List.setIfInBounds_toArray, List.set_cons_zero, List.set_cons_succ]
      refine wpAnyH_take (i := 9) (v := (.pointer (some ⟨p, 0, none⟩))) ops_at9 (by kernel_rfl) (by kernel_rfl) (by kernel_rfl) (fun _ _ _ h => h) (Or.inl ⟨by rfl, fun V hV => ?_⟩) hHeld ?_
      · go_simp
      simp only [Act.put, List.setIfInBounds_toArray, List.set_cons_zero, List.set_cons_succ]
      refine wpAnyH_take (i := 10) (v := (.pointer (some ⟨p, 0, none⟩))) ops_at10 (by kernel_rfl) (by kernel_rfl) (by kernel_rfl) (fun _ _ _ h => h) (Or.inl ⟨by rfl, fun V hV => ?_⟩) hHeld ?_
      · go_simp
      simp only [Act.put, List.setIfInBounds_toArray, List.set_cons_zero, List.set_cons_succ]
      refine wpAnyH_take (i := 11) (v := .pointer (some ⟨p, 2, none⟩)) ops_at11 (by kernel_rfl) (by kernel_rfl) (by kernel_rfl) (fun _ _ _ h => h) (Or.inl ⟨by rfl, fun V hV => ?_⟩) hHeld ?_
      · go_simp
      simp only [Act.put, List.setIfInBounds_toArray, List.set_cons_zero, List.set_cons_succ]
      refine wpAnyH_take (i := 12) (v := .int .i64 u.quota) ops_at12 (by kernel_rfl) (by kernel_rfl) (by kernel_rfl) (fun _ _ _ h => h) (Or.inl ⟨by rfl, fun V hV => ?_⟩) hHeld ?_
      · obtain ⟨x0, x1, x2, x3, x4⟩ := hV
        go_simp
      simp only [Act.put, List.setIfInBounds_toArray, List.set_cons_zero, List.set_cons_succ]
      refine wpAnyH_take (i := 13) (v := (.pointer (some ⟨p, 0, none⟩))) ops_at13 (by kernel_rfl) (by kernel_rfl) (by kernel_rfl) (fun _ _ _ h => h) (Or.inl ⟨by rfl, fun V hV => ?_⟩) hHeld ?_
      · go_simp
      simp only [Act.put, List.setIfInBounds_toArray, List.set_cons_zero, List.set_cons_succ]
      refine wpAnyH_take (i := 14) (v := (.pointer (some ⟨p, 0, none⟩))) ops_at14 (by kernel_rfl) (by kernel_rfl) (by kernel_rfl) (fun _ _ _ h => h) (Or.inl ⟨by rfl, fun V hV => ?_⟩) hHeld ?_
      · go_simp
      simp only [Act.put, List.setIfInBounds_toArray, List.set_cons_zero, List.set_cons_succ]
      refine wpAnyH_take (i := 15) (v := .pointer (some ⟨p, 3, none⟩)) ops_at15 (by kernel_rfl) (by kernel_rfl) (by kernel_rfl) (fun _ _ _ h => h) (Or.inl ⟨by rfl, fun V hV => ?_⟩) hHeld ?_
      · go_simp
      simp only [Act.put, List.setIfInBounds_toArray, List.set_cons_zero, List.set_cons_succ]
      refine wpAnyH_take (i := 16) (v := .map (some b)) ops_at16 (by kernel_rfl) (by kernel_rfl) (by kernel_rfl) (fun _ _ _ h => h) (Or.inl ⟨by rfl, fun V hV => ?_⟩) hHeld ?_
      · obtain ⟨x0, x1, x2, x3, x4⟩ := hV
        go_simp
      simp only [Act.put, List.setIfInBounds_toArray, List.set_cons_zero, List.set_cons_succ]
      refine wpAnyH_take (i := 17) (v := goInt lm.length) ops_at17 (by kernel_rfl) (by kernel_rfl) (by kernel_rfl) (fun _ _ _ h => h) (Or.inl ⟨by rfl, fun V hV => ?_⟩) hHeld ?_
      · obtain ⟨x0, x1, x2, x3, x4⟩ := hV
        have hln := run_maplen x4 3
        go_simp
      simp only [Act.put, List.setIfInBounds_toArray, List.set_cons_zero, List.set_cons_succ]
      refine wpAnyH_take (i := 18) (v := .agg #[.int .i64 u.id, .int .i64 1, .int .i64 u.size, .int .i64 u.quota, .int .i64 0, .int .i64 (lm.length : Int)]) ops_at18 (by kernel_rfl) (by kernel_rfl) (by kernel_rfl) (fun _ _ _ h => h) (Or.inl ⟨by rfl, fun V hV => ?_⟩) hHeld ?_
      · go_simp
      simp only [Act.put, List.setIfInBounds_toArray, List.set_cons_zero, List.set_cons_succ]
      refine wpAnyH_ready (rs := [19]) (by kernel_rfl) (by simp) ?_
      refine AllReadyH.cons ops_at19 (fun K hK => ?_) AllReadyH.nil
      rw [if_pos (by rfl)]
      go_simp
      obtain ⟨wa, hwa⟩ : ∃ wa, wa = (wr.alloc (.cells #[.int .i64 u.id, .int .i64 1, .int .i64 u.size, .int .i64 u.quota, .int .i64 0, .int .i64 (lm.length : Int)] 45)).drew := ⟨_, rfl⟩
      rw [← hwa]
      have hka : Keeps (fun _ => False) wr wa := by rw [hwa]; exact ((Keeps.refl _ wr).alloc _).drew
      have hoa : wa.ownsRow w.heap.size 45 6 (.slice ra rn rc) k (volsV (S.vols.take k)) := hka.owns HO.out (fun _ _ h => h)
      have hca : CellsAt wa wr.heap.size #[.int .i64 u.id, .int .i64 1, .int .i64 u.size, .int .i64 u.quota, .int .i64 0, .int .i64 (lm.length : Int)] 45 := by rw [hwa]; show CellsAt (wr.alloc _) _ _ _; exact heap_at rfl
      have hza : wa.heap.size = wr.heap.size + 1 := by rw [hwa]; show (wr.alloc _).heap.size = _; simp
      have hsa : VolS p b u lm wa := (VolS.mk q0 q1 q2 q3 hml).keeps hka
      have hb1 : w.heap.size ≤ wa.heap.size := by have := HKr.out.size; omega
      have hb2 : wr.heap.size < wa.heap.size := by omega
      clear hza hwa
      refine hK.out _ _ hsa (fun hHeld => ?_)
      clear hK K
      refine wpAnyH_ready (rs := [20]) (by kernel_rfl) (by simp) ?_
      refine AllReadyH.cons ops_at20 (fun K hK => ?_) AllReadyH.nil
      rw [if_pos (by rfl)]
      refine wp_append_own wa (.tmp 15) (.tmp 34) 39 rfl w.heap.size 45 i0 _ 6 48 Try.underlying39 HI.out HZ0.out HZ1.out HZ2.out rfl (by decide) (.slice ra rn rc) k (volsV (S.vols.take k)) rfl hoa ⟨wr.heap.size, 0, none⟩ 1 1 (vcell u lm.length) rfl rfl (fun j x hj => by rw [Addr.add_mid, Nat.zero_add]; exact (hca.cell j).trans (by simpa [vcell] using hj)) (by simp [vcell, Value.oneCell']) (by unfold maxLen; omega) (by omega) hb1 ?_
      intro v2 w2 hown2 hgrow2 _
      obtain ⟨g2, c2, rfl⟩ := ownsRow_succ hown2
      have hk2 : Keeps (fun _ => False) w w2 := (HKr.out.trans hka (fun _ _ h => h)).trans (Keeps.of_grown hgrow2 (fun x hx => hx)) (fun x hx hxx => by have := (World.ownsRow.lt hoa x hxx).1; omega)
      have hs2 : VolS p b u lm w2 := hsa.keepsF (Keeps.of_grown hgrow2 (fun x hx => hx)) (fun hx => by have := (World.ownsRow.lt hoa _ hx).1; omega) (fun hx => by have := (World.ownsRow.lt hoa _ hx).1; omega)
      have HO2 := Lib.hid hown2; clear hown2
      have HK2 := Lib.hid hk2; clear hk2 hgrow2 hoa hca hka
      go_simp
      refine hK.out _ _ hs2 (fun hHeld => ?_)
      clear hK K
      refine wpAnyH_take (i := 21) (v := .slice (some ⟨g2, 0, none⟩) (k + 1) c2) ops_at21 (by kernel_rfl) (by kernel_rfl) (by kernel_rfl) (fun _ _ _ h => h) (Or.inl ⟨by rfl, fun V hV => ?_⟩) hHeld ?_
      · go_simp
      simp only [Act.put, List.setIfInBounds_toArray, List.set_cons_zero, List.set_cons_succ]
      refine wpAnyH_done (by kernel_rfl) ?_ _
      go_wp2
      go_roundw
      case rel =>
        refine ⟨k + 1, by omega, by simp, _, _, _, rfl, ?_, HK2.out⟩
        rw [volsV_next _ _ _ HVk.out, ← HLM.out]
        exact HO2.out
      case measure => simp only [intOf]; omega

theorem new_any [Zs] (w : World) : Calls Try.prog 10 #[] w fun e w' => e = .returned (.pointer (some ⟨w.heap.size, 0, none⟩)) ∧ ModelIs w' w.heap.size (.slice none 0 0) [] ⟨[], 1⟩ ∧ Below w.heap.size w w' := by
  go_enter Try.func10, Try.ntmps10
  go_wp2
  go_ret
  exact ⟨rfl, ⟨heap_at rfl, World.ownsRow_nil _ _ _ _, rfl, fun i p v hp => by simp at hp, by simp, by simp⟩, allocBelow _ _⟩
end Go.Proofs.Ytmanldcohbegkaa
