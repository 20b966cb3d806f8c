/-
  The document's model: list, Volumes. (Written by gen_rflist.py.)
-/
import Derived.Test.YtmanldcohbegkaaRfSmall
import Derived.Test.YtmanldcohbegkaaMdVols
namespace Go.Proofs.Ytmanldcohbegkaa
open Go.RowKit

structure LsAt (r g n c k : Nat) (a b : Int) (V : World) : Prop where
  x0 : V.cell? ⟨r, 0, none⟩ = some (.slice (some ⟨g, 0, none⟩) n c)
  x1 : V.cell? ⟨g, k * 4, none⟩ = some (.int .i64 a)
  x2 : V.cell? ⟨g, k * 4 + 1, none⟩ = some (.int .i64 b)
theorem LsAt.below {r g n c k : Nat} {a b : Int} {V V' : World} (h : LsAt r g n c k a b V) {B : Nat} (hb : Below B V V') (hr : r < B) (hg : g < B) : LsAt r g n c k a b V' :=
  ⟨(hb.cell (p := ⟨r, 0, none⟩) hr).trans h.x0, (hb.cell (p := ⟨g, k * 4, none⟩) hg).trans h.x1, (hb.cell (p := ⟨g, k * 4 + 1, none⟩) hg).trans h.x2⟩

set_option maxRecDepth 100000 in
set_option maxHeartbeats 3200000 in
theorem rlist_any (r : Nat) (lv : Value) (vs : List (Vo × Value)) (S : Mo) (W : Nat → Prop) (w : World) (h : RefIs w r lv vs S W) (hg : Good S) :
    Calls Try.prog 48 #[.pointer (some ⟨r, 0, none⟩)] w fun e w' => ∃ x, e = .returned x ∧ Owns w.heap.size w' x (listS S.vols) ∧ Below w.heap.size w w' := by
  have hlen8 : vs.length ≤ 8 := by rw [h.len]; exact hg.len
  obtain ⟨a, c, rfl, hform⟩ := ownsForm h.row
  obtain ⟨n, hn⟩ : ∃ n, n = vs.length := ⟨_, rfl⟩
  rw [← hn] at h hform hlen8
  have hn1 : n ≤ vs.length := by omega
  have hn2 : vs.length ≤ n := by omega
  clear hn
  have hrl := h.lt r h.inR
  have H := Lib.hid h; clear h
  have HG := Lib.hid hg; clear hg
  have HFM := Lib.hid hform; clear hform
  go_enter Try.func48, Try.ntmps48
  go_wp2_with fail
  go_loopw [3, 4] (fun o i wr => ∃ k : Nat, k ≤ n ∧ i = .int .i64 (k : Int) ∧ ∃ ra rn rc, o = .slice ra rn rc ∧ Owns w.heap.size wr (.slice ra rn rc) (listS (S.vols.take k)) ∧ Below w.heap.size w wr) (fun _ i _ => n - (intOf i).toNat)
  case atStart => exact ⟨0, by omega, rfl, none, 0, 0, rfl, Owns.nil _ _, Below.refl _ _⟩
  case round =>
    obtain ⟨k, hk, rfl, ra, rn, rc, rfl, ho, hb⟩ := hrel
    have HO := Lib.hid ho; clear ho
    have HB := Lib.hid hb; clear hb
    have c0 := (H.out.below HB.out).head.cell 0
    simp only [List.getElem?_toArray, List.getElem?_cons_zero] at c0
    by_cases hlt : k < n
    · have hkn : (k : Int) < (n : Int) := by omega
      have hk0 : (0 : Int) ≤ (k : Int) := by omega
      have hkz : ((k : Int)).toNat = k := by omega
      obtain ⟨g, rfl, hgl⟩ : ∃ g, a = some ⟨g, 0, none⟩ ∧ g < w.heap.size := by
        rcases HFM.out with ⟨_, h0, _⟩ | ⟨g, e, hl⟩
        · omega
        · exact ⟨g, e, hl⟩
      obtain ⟨p, hp⟩ : ∃ p, vs[k]? = some p := ⟨vs[k]'(by omega), by simp [show k < vs.length by omega]⟩
      have hv : S.vols[k]? = some p.1 := by rw [H.out.vols]; simp [hp]
      have q0 := (H.out.below HB.out).cell hp 0 (by omega)
      have q1 := (H.out.below HB.out).cell hp 1 (by omega)
      simp only [vcell4, List.getElem?_cons_zero, List.getElem?_cons_succ, Nat.add_zero] at q0 q1
      have hid := HG.out.ids p.1 (List.mem_of_getElem? hv)
      have hsz := HG.out.size p.1 (List.mem_of_getElem? hv)
      have hnx := HG.out.next1
      obtain ⟨x, hx⟩ : ∃ x : Nat, p.1.id = (x : Int) := ⟨p.1.id.toNat, by omega⟩
      obtain ⟨y, hy⟩ : ∃ y : Nat, p.1.size = (y : Int) := ⟨p.1.size.toNat, by omega⟩
      have hnext := listS_next S.vols k p.1 hv
      rw [hx, hy] at hnext
      rw [Int.toNat_natCast, Int.toNat_natCast] at hnext
      rw [hx] at q0 hid
      rw [hy] at q1 hsz
      have HNX := Lib.hid hnext; clear hnext hx hy hv hp
      have hxl : x < 2147483648 := by omega
      have hyl : y < 2147483648 := by omega
      clear hid hsz hnx
      have hln : (listS (S.vols.take k)).length ≤ 100 := by rw [listS_length, List.length_take]; omega
      have hLS : LsAt r g n c k x y wr := ⟨c0, q0, q1⟩
      clear q0 q1
      have hbz : w.heap.size ≤ wr.heap.size := HB.out.size
      go_upto_region 5 with fail
      refine wp_region_held_drew (S := LsAt r g n c k x y) (by kernel_rfl) ⟨hLS.x0, hLS.x1, hLS.x2⟩ (fun hHeld => ?_)
      refine wpAnyH_take (i := 0) (v := .slice ra rn rc) ops_at0 (by kernel_rfl) (by kernel_rfl) (by kernel_rfl) (fun _ _ _ h => h) (Or.inl ⟨by rfl, fun V hV => ?_⟩) hHeld ?_
      · go_simp
      simp only [Act.put, List.setIfInBounds_toArray, List.set_cons_zero, List.set_cons_succ]
      refine wpAnyH_take (i := 1) (v := (.pointer (some ⟨r, 0, none⟩))) ops_at1 (by kernel_rfl) (by kernel_rfl) (by kernel_rfl) (fun _ _ _ h => h) (Or.inl ⟨by rfl, fun V hV => ?_⟩) hHeld ?_
      · go_simp
      simp only [Act.put, List.setIfInBounds_toArray, List.set_cons_zero, List.set_cons_succ]
      refine wpAnyH_take (i := 2) (v := (.pointer (some ⟨r, 0, none⟩))) ops_at2 (by kernel_rfl) (by kernel_rfl) (by kernel_rfl) (fun _ _ _ h => h) (Or.inl ⟨by rfl, fun V hV => ?_⟩) hHeld ?_
      · go_simp
      simp only [Act.put, List.setIfInBounds_toArray, List.set_cons_zero, List.set_cons_succ]
      refine wpAnyH_take (i := 3) (v := (.pointer (some ⟨r, 0, none⟩))) ops_at3 (by kernel_rfl) (by kernel_rfl) (by kernel_rfl) (fun _ _ _ h => h) (Or.inl ⟨by rfl, fun V hV => ?_⟩) hHeld ?_
      · go_simp
      simp only [Act.put, List.setIfInBounds_toArray, List.set_cons_zero, List.set_cons_succ]
      refine wpAnyH_take (i := 4) (v := .slice (some ⟨g, 0, none⟩) n c) ops_at4 (by kernel_rfl) (by kernel_rfl) (by kernel_rfl) (fun _ _ _ h => h) (Or.inl ⟨by rfl, fun V hV => ?_⟩) hHeld ?_
      · obtain ⟨x0, x1, x2⟩ := hV
        go_simp
      simp only [Act.put, List.setIfInBounds_toArray, List.set_cons_zero, List.set_cons_succ]
      refine wpAnyH_take (i := 5) (v := .int .i64 (k : Int)) ops_at5 (by kernel_rfl) (by kernel_rfl) (by kernel_rfl) (fun _ _ _ h => h) (Or.inl ⟨by rfl, fun V hV => ?_⟩) hHeld ?_
      · go_simp
      simp only [Act.put, List.setIfInBounds_toArray, List.set_cons_zero, List.set_cons_succ]
      refine wpAnyH_take (i := 6) (v := (.pointer (some ⟨g, k * 4, none⟩))) ops_at6 (by kernel_rfl) (by kernel_rfl) (by kernel_rfl) (fun _ _ _ h => h) (Or.inl ⟨by rfl, fun V hV => ?_⟩) hHeld ?_
      · go_simp
      simp only [Act.put, List.setIfInBounds_toArray, List.set_cons_zero, List.set_cons_succ]
      refine wpAnyH_take (i := 7) (v := (.pointer (some ⟨g, k * 4, none⟩))) ops_at7 (by kernel_rfl) (by kernel_rfl) (by kernel_rfl) (fun _ _ _ h => h) (Or.inl ⟨by rfl, fun V hV => ?_⟩) hHeld ?_
      · go_simp
      simp only [Act.put, List.setIfInBounds_toArray, List.set_cons_zero, List.set_cons_succ]
      refine wpAnyH_take (i := 8) (v := .int .i64 (x : Int)) ops_at8 (by kernel_rfl) (by kernel_rfl) (by kernel_rfl) (fun _ _ _ h => h) (Or.inl ⟨by rfl, fun V hV => ?_⟩) hHeld ?_
      · obtain ⟨x0, x1, x2⟩ := hV
        go_simp
      simp only [Act.put, List.setIfInBounds_toArray, List.set_cons_zero, List.set_cons_succ]
      refine wpAnyH_take (i := 10) (v := (.pointer (some ⟨r, 0, none⟩))) ops_at10 (by kernel_rfl) (by kernel_rfl) (by kernel_rfl) (fun _ _ _ h => h) (Or.inl ⟨by rfl, fun V hV => ?_⟩) hHeld ?_
      · go_simp
      simp only [Act.put, List.setIfInBounds_toArray, List.set_cons_zero, List.set_cons_succ]
      refine wpAnyH_take (i := 11) (v := (.pointer (some ⟨r, 0, none⟩))) ops_at11 (by kernel_rfl) (by kernel_rfl) (by kernel_rfl) (fun _ _ _ h => h) (Or.inl ⟨by rfl, fun V hV => ?_⟩) hHeld ?_
      · go_simp
      simp only [Act.put, List.setIfInBounds_toArray, List.set_cons_zero, List.set_cons_succ]
      refine wpAnyH_take (i := 12) (v := (.pointer (some ⟨r, 0, none⟩))) ops_at12 (by kernel_rfl) (by kernel_rfl) (by kernel_rfl) (fun _ _ _ h => h) (Or.inl ⟨by rfl, fun V hV => ?_⟩) hHeld ?_
      · go_simp
      simp only [Act.put, List.setIfInBounds_toArray, List.set_cons_zero, List.set_cons_succ]
      refine wpAnyH_take (i := 13) (v := .slice (some ⟨g, 0, none⟩) n c) ops_at13 (by kernel_rfl) (by kernel_rfl) (by kernel_rfl) (fun _ _ _ h => h) (Or.inl ⟨by rfl, fun V hV => ?_⟩) hHeld ?_
      · obtain ⟨x0, x1, x2⟩ := hV
        go_simp
      simp only [Act.put, List.setIfInBounds_toArray, List.set_cons_zero, List.set_cons_succ]
      refine wpAnyH_take (i := 14) (v := .int .i64 (k : Int)) ops_at14 (by kernel_rfl) (by kernel_rfl) (by kernel_rfl) (fun _ _ _ h => h) (Or.inl ⟨by rfl, fun V hV => ?_⟩) hHeld ?_
      · go_simp
      simp only [Act.put, List.setIfInBounds_toArray, List.set_cons_zero, List.set_cons_succ]
      refine wpAnyH_take (i := 15) (v := (.pointer (some ⟨g, k * 4, none⟩))) ops_at15 (by kernel_rfl) (by kernel_rfl) (by kernel_rfl) (fun _ _ _ h => h) (Or.inl ⟨by rfl, fun V hV => ?_⟩) hHeld ?_
      · go_simp
      simp only [Act.put, List.setIfInBounds_toArray, List.set_cons_zero, List.set_cons_succ]
      refine wpAnyH_take (i := 16) (v := (.pointer (some ⟨g, k * 4 + 1, none⟩))) ops_at16 (by kernel_rfl) (by kernel_rfl) (by kernel_rfl) (fun _ _ _ h => h) (Or.inl ⟨by rfl, fun V hV => ?_⟩) hHeld ?_
      · go_simp
      simp only [Act.put, List.setIfInBounds_toArray, List.set_cons_zero, List.set_cons_succ]
      refine wpAnyH_take (i := 17) (v := .int .i64 (y : Int)) ops_at17 (by kernel_rfl) (by kernel_rfl) (by kernel_rfl) (fun _ _ _ h => h) (Or.inl ⟨by rfl, fun V hV => ?_⟩) hHeld ?_
      · obtain ⟨x0, x1, x2⟩ := hV
        go_simp
      simp only [Act.put, List.setIfInBounds_toArray, List.set_cons_zero, List.set_cons_succ]
      refine wpAnyH_ready (rs := [9]) (by kernel_rfl) (by simp) ?_
      refine AllReadyH.cons ops_at9 (fun K hK => ?_) AllReadyH.nil
      rw [if_pos (by rfl)]
      go_simp
      refine (rfour_any w.heap.size (.slice ra rn rc) (listS (S.vols.take k)) x wr.drew (World.ownsRow.drew HO.out) hbz (by omega) hxl).mono ?_
      rintro e w2 ⟨r2, rfl, hown2, hb2⟩
      obtain ⟨r2a, r2c, rfl, _⟩ := hown2.bytes.form
      obtain ⟨l2, hl2⟩ : ∃ l2, l2 = (listS (S.vols.take k) ++ fourB x).length := ⟨_, rfl⟩
      rw [← hl2] at hown2 ⊢
      clear hl2
      have hb2' : Below w.heap.size wr w2 := (Below.refl _ wr).drew.trans hb2
      have hLS2 := hLS.below hb2' hrl hgl
      have HB2 := Lib.hid (HB.out.trans hb2'); have HO2 := Lib.hid hown2; clear hown2 hb2 hb2'
      go_wp2_with fail
      refine hK.out _ _ hLS2 (fun hHeld2 => ?_)
      clear hK K
      refine wpAnyH_ready (rs := [18]) (by kernel_rfl) (by simp) ?_
      refine AllReadyH.cons ops_at18 (fun K hK => ?_) AllReadyH.nil
      rw [if_pos (by rfl)]
      go_simp
      refine (rfour_any w.heap.size (.slice r2a l2 r2c) (listS (S.vols.take k) ++ fourB x) y w2 HO2.out HB2.out.size (by rw [List.length_append]; show _ + 4 ≤ _; omega) hyl).mono ?_
      rintro e w3 ⟨r3, rfl, hown3, hb3⟩
      obtain ⟨r3a, r3c, rfl, _⟩ := hown3.bytes.form
      obtain ⟨l3, hl3⟩ : ∃ l3, l3 = (listS (S.vols.take k) ++ fourB x ++ fourB y).length := ⟨_, rfl⟩
      rw [← hl3] at hown3 ⊢
      clear hl3
      have hLS3 := hLS2.below hb3 hrl hgl
      have HB3 := Lib.hid (HB2.out.trans hb3); have HO3 := Lib.hid hown3; clear hown3 hb3
      go_wp2_with fail
      refine hK.out _ _ hLS3 (fun hHeld3 => ?_)
      clear hK K
      refine wpAnyH_take (i := 19) (v := .slice r3a l3 r3c) ops_at19 (by kernel_rfl) (by kernel_rfl) (by kernel_rfl) (fun _ _ _ h => h) (Or.inl ⟨by rfl, fun V hV => ?_⟩) hHeld3 ?_
      · go_simp
      simp only [Act.put, List.setIfInBounds_toArray, List.set_cons_zero, List.set_cons_succ]
      refine wpAnyH_done (by kernel_rfl) ?_ _
      go_wp2
      go_roundw
      case rel => exact ⟨k + 1, by omega, by simp, _, _, _, rfl, by rw [HNX.out]; exact HO3.out, HB3.out⟩
      case measure => simp only [intOf]; omega
    · obtain rfl : k = n := by omega
      have hkk : ¬ (k : Int) < (k : Int) := by omega
      have hta : S.vols.take k = S.vols := List.take_of_length_le (by rw [← H.out.len]; omega)
      rw [hta] at HO
      clear hta
      go_wp2
      go_ret
      exact ⟨_, rfl, HO.out, HB.out⟩

set_option maxRecDepth 100000 in
set_option maxHeartbeats 3200000 in
theorem rvolumes_any (r : Nat) (lv : Value) (vs : List (Vo × Value)) (S : Mo) (W : Nat → Prop) (w : World) (h : RefIs w r lv vs S W) (hg : Good S) :
    Calls Try.prog 18 #[.pointer (some ⟨r, 0, none⟩)] w fun e w' => ∃ x, e = .returned x ∧ w'.ownsRow w.heap.size 45 6 x S.vols.length (volsV S.vols) ∧ Below w.heap.size w w' := by
  obtain ⟨i0, hi, hz0, hz1, hz2⟩ := info_parts Try.info_vol
  have HI := Lib.hid hi; clear hi
  have HZ0 := Lib.hid hz0; clear hz0
  have HZ1 := Lib.hid hz1; clear hz1
  have HZ2 := Lib.hid hz2; clear hz2
  have hlen8 : vs.length ≤ 8 := by rw [h.len]; exact hg.len
  obtain ⟨a, c, rfl, hform⟩ := ownsForm h.row
  obtain ⟨n, hn⟩ : ∃ n, n = vs.length := ⟨_, rfl⟩
  rw [← hn] at h hform hlen8
  have hn1 : n ≤ vs.length := by omega
  have hn2 : vs.length ≤ n := by omega
  have hnS : n = S.vols.length := by rw [hn, h.len]
  clear hn
  have HNS := Lib.hid hnS; clear hnS
  have hrl := h.lt r h.inR
  have H := Lib.hid h; clear h
  have HFM := Lib.hid hform; clear hform hg
  go_enter Try.func18, Try.ntmps18
  go_wp2_with fail
  go_loopw [3, 4, 5] (fun o i q wr => ∃ k : Nat, k ≤ n ∧ i = .int .i64 (k : Int) ∧ ∃ ra rc, o = .slice ra k rc ∧ wr.ownsRow w.heap.size 45 6 (.slice ra k rc) k (volsV (S.vols.take k)) ∧ Below w.heap.size w wr) (fun _ i _ _ => n - (intOf i).toNat)
  case atStart => exact ⟨0, by omega, rfl, none, 0, rfl, World.ownsRow_nil _ _ _ _, Below.refl _ _⟩
  case round =>
    obtain ⟨k, hk, rfl, ra, rc, rfl, ho, hb⟩ := hrel
    have HO := Lib.hid ho; clear ho
    have HB := Lib.hid hb; clear hb
    have c0 := (H.out.below HB.out).head.cell 0
    simp only [List.getElem?_toArray, List.getElem?_cons_zero] at c0
    by_cases hlt : k < n
    · have hkn : (k : Int) < (n : Int) := by omega
      have hk0 : (0 : Int) ≤ (k : Int) := by omega
      have hkz : ((k : Int)).toNat = k := by omega
      obtain ⟨g, rfl, hgl⟩ : ∃ g, a = some ⟨g, 0, none⟩ ∧ g < w.heap.size := by
        rcases HFM.out with ⟨_, h0, _⟩ | ⟨g, e, hl⟩
        · omega
        · exact ⟨g, e, hl⟩
      obtain ⟨p, hp⟩ : ∃ p, vs[k]? = some p := ⟨vs[k]'(by omega), by simp [show k < vs.length by omega]⟩
      have hv : S.vols[k]? = some p.1 := by rw [H.out.vols]; simp [hp]
      have q0 := (H.out.below HB.out).cell hp 0 (by omega)
      have q1 := (H.out.below HB.out).cell hp 1 (by omega)
      have q2 := (H.out.below HB.out).cell hp 2 (by omega)
      have q3 := (H.out.below HB.out).cell hp 3 (by omega)
      simp only [vcell4, List.getElem?_cons_zero, List.getElem?_cons_succ, Nat.add_zero] at q0 q1 q2 q3
      obtain ⟨es, hrr, hsb⟩ := H.out.bl p (List.mem_of_getElem? hp)
      obtain ⟨ba, bc, hbf, _⟩ := ownsForm hrr.row
      have hbl : es.length = p.1.bl.length := by rw [← hsb.len]; simp [REs.data]
      rw [hbf, hbl] at q3
      have hnext := volsV_next S.vols k p.1 hv
      obtain ⟨v, bv⟩ := p
      dsimp only at q0 q1 q2 q3 hnext
      obtain ⟨nb, hnb⟩ : ∃ nb, nb = v.bl.length := ⟨_, rfl⟩
      rw [← hnb] at q3 hnext
      have HNX := Lib.hid hnext; clear hnext hnb hbl hbf hsb hrr hv hp
      have hbz : w.heap.size ≤ wr.heap.size := HB.out.size
      obtain ⟨w2, hw2⟩ : ∃ w2, w2 = wr.alloc (.cells #[.int .i64 v.id, .int .i64 v.size, .int .i64 v.quota, .slice ba nb bc] 69) := ⟨_, rfl⟩
      have hc2 : CellsAt w2 wr.heap.size #[.int .i64 v.id, .int .i64 v.size, .int .i64 v.quota, .slice ba nb bc] 69 := by rw [hw2]; exact heap_at rfl
      have HB2 := Lib.hid (show Below w.heap.size w w2 by rw [hw2]; exact HB.out.alloc hbz _)
      have HO2 := Lib.hid (show w2.ownsRow w.heap.size 45 6 (.slice ra k rc) k (volsV (S.vols.take k)) by rw [hw2]; exact World.ownsRow.alloc HO.out _)
      go_upto_region 6 with fail
      rw [← hw2]
      clear hw2 q0 q1 q2 q3 c0
      have q0 := hc2.cell 0
      have q1 := hc2.cell 1
      have q2 := hc2.cell 2
      have q3 := hc2.cell 3
      simp only [List.getElem?_toArray, List.getElem?_cons_zero, List.getElem?_cons_succ] at q0 q1 q2 q3
      clear hc2
      go_wp2_with (at_builtin; refine wpList_append_own _ rfl (.tmp 22) (.tmp 33) 39 rfl w.heap.size 45 i0 _ 6 48 Try.underlying39 HI.out HZ0.out HZ1.out HZ2.out rfl (by decide) (.slice ra k rc) k (volsV (S.vols.take k)) rfl (World.ownsRow.alloc HO2.out _) ⟨w2.heap.size, 0, none⟩ 1 1 (#[.int .i64 v.id, .int .i64 1, .int .i64 v.size, .int .i64 v.quota, .int .i64 0, .int .i64 (nb : Int)] : Array Value).toList rfl rfl (World.news_of_block (cs := #[.int .i64 v.id, .int .i64 1, .int .i64 v.size, .int .i64 v.quota, .int .i64 0, .int .i64 (nb : Int)]) (t := 45) (fr := (0, 0)) (World.alloc_heap_new w2 _)) (by simp [Value.oneCell']) (by unfold maxLen; omega) (by omega) (by have := HB2.out.size; simp; omega) ?_; intro v3 w3 hown3 hgrow3 _; obtain ⟨a3, c3, rfl, _⟩ := ownsForm hown3)
      go_roundw
      case rel => exact ⟨k + 1, by omega, by simp, a3, c3, rfl, by rw [HNX.out]; exact hown3, (HB2.out.alloc HB2.out.size _).grown hgrow3 (by have := HB2.out.size; simp; omega) (fun x hx => (World.ownsRow.lt HO2.out x hx).1)⟩
      case measure => simp only [intOf]; omega
    · obtain rfl : k = n := by omega
      have hkk : ¬ (k : Int) < (k : Int) := by omega
      have hta : S.vols.take k = S.vols := List.take_of_length_le (by rw [← H.out.len]; omega)
      rw [hta] at HO
      clear hta
      go_wp2
      go_ret
      exact ⟨_, rfl, by rw [← HNS.out]; exact HO.out, HB.out⟩
end Go.Proofs.Ytmanldcohbegkaa
