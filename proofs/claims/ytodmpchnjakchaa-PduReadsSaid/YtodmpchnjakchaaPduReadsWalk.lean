/-
  PduReads: the walk.
-/
import Derived.Test.YtodmpchnjakchaaPduRefParse
import Derived.Test.YtodmpchnjakchaaPduPartsMath
namespace Go.Proofs.Ytodmpchnjakchaa
open Go.RowKit

set_option maxRecDepth 100000 in
set_option maxHeartbeats 6400000 in
theorem reads_any (bo : Option Addr) (n c : Nat) (l : List Nat) (head data : Bool) (most : Int) (w : World) (h : BytesAt w (.slice bo n c) l) (hB : Crc.Bytes l) (hcap : n ≤ c) (hl : n ≤ 140737488355328) (hmo : i64s most) :
    Calls Try.prog 4 #[.slice bo n c, .bool head, .bool data, .int .i64 most] w fun e w' => e = .returned (.bool true) ∧ Below w.heap.size w w' := by
  have hn := h.length
  have hlies := h.lies
  have HIR := Lib.hid (show (Try.prog.info? 25).map (·.size) = some 27 by kernel_rfl)
  have HUR := Lib.hid (Try.underlying25)
  have HI2 := Lib.hid (show (Try.prog.info? 32).map (·.size) = some 27 by kernel_rfl)
  have HU2 := Lib.hid (Try.underlying32)
  have hm1 := hmo.1
  have hm2 := hmo.2
  have HD := Lib.hid h; clear h
  go_enter Try.func4, Try.ntmps4
  go_wp2_with fail
  refine (new_any w).mono ?_
  rintro e w1 ⟨rfl, ht1, hb1, hs1⟩
  obtain ⟨tb, htb⟩ : ∃ tb, tb = w.heap.size := ⟨_, rfl⟩
  rw [← htb] at ht1 ⊢
  have hsz : w.heap.size ≤ tb ∧ tb ≤ w.heap.size ∧ tb + 1 ≤ w1.heap.size := by omega
  have HBw1 := Lib.hid hb1
  have hlt : LiesIn (.slice bo n c) (· ≠ tb) := hlies.mono fun k hk => by omega
  have HDof : ∀ V, Keeps (· = tb) w1 V → Hid (BytesAt V (.slice bo n c) l) := fun V hV => (HD.out.later HBw1.out).keeps hV hlt
  have HT1 := Lib.hid ht1
  clear hs1 htb hb1 ht1
  go_wp2_with fail
  refine (known_any tb false w1 HT1.out).mono ?_
  rintro e w2 ⟨rfl, ⟨d2, ht2⟩, hk2⟩
  have HT2 := Lib.hid ht2
  have HK2 := Lib.hid hk2
  clear ht2 hk2 HT1
  go_wp2_with fail
  go_loopg [10] 2 (fun g s10 wx => ∃ i : Nat, s10 = .int .i64 i ∧ i + g = 2 ∧ (∃ d', Table wx tb d') ∧ Keeps (· = tb) w1 wx)
  case atStart => exact ⟨0, rfl, by omega, ⟨d2, HT2.out⟩, HK2.out⟩
  case round =>
    obtain ⟨i, rfl, hig, ⟨di, hti⟩, hki⟩ := hrel
    have HTi := Lib.hid hti
    have HKi := Lib.hid hki
    have hsi := hki.size
    clear hti hki HT2 HK2
    obtain ⟨gk1, hgk1⟩ : ∃ x, x = gk := ⟨_, rfl⟩
    by_cases hi : i < 2
    case neg =>
      go_wp2_with fail
      go_ret
      exact ⟨rfl, HBw1.out.trans (HKi.out.below (B := w.heap.size) (by omega) (fun z h1 h2 => by omega))⟩
    case pos =>
      have ti : decide ((i : Int) < 2) = true := by rw [decide_eq_true_eq]; omega
      obtain ⟨A1, hA1⟩ : ∃ A1, A1 = Pdu.parse l head data most := ⟨_, rfl⟩
      have HPa := Lib.hid (parse_any _ bo n c l head data most tb di wr rfl (HDof wr HKi.out).out hB hcap (by omega) hmo HTi.out hlt)
      go_wp2_with fail
      refine HPa.out.mono ?_
      rintro e w7 hpost
      unfold ParsePost at hpost
      have hdl := Pdu.parse_data l head data most
      rw [← hA1] at hpost hdl
      obtain ⟨p1, n1, e1⟩ := A1
      simp only at hpost hdl
      obtain ⟨dv1, rfl, ho7, ⟨d7, ht7⟩, hk7⟩ := hpost
      obtain ⟨ea, ec, rfl, _⟩ := ho7.bytes.form
      obtain ⟨en, hen⟩ : ∃ en, en = p1.data.length := ⟨_, rfl⟩
      rw [← hen] at ho7 hdl ⊢
      have HEn := Lib.hid hen
      have HO7 := Lib.hid ho7
      have HK7 := Lib.hid (HKi.out.trans hk7 (fun _ _ h => h))
      have hs7 := hk7.size
      have HA1 := Lib.hid hA1
      have HT7 := Lib.hid ht7
      clear hen ho7 hk7 ht7 hA1 HPa HKi HTi
      obtain ⟨P, hP⟩ : ∃ x, x = w7.heap.size := ⟨_, rfl⟩
      go_upto_region 8 with (refine wpList_store_pd rfl 32 (.tmp 11) (.tmp 33) rfl w7.heap.size Pdu.pdZero (p1) (.slice none 0 0) (.slice ea en ec) rfl rfl (fun j => show (w7.alloc (.cells #[.int .i64 0, .bool false, .int .i64 0, .int .i64 0, .int .i64 0, .int .i64 0, .int .i64 0, .int .i64 0, .int .i64 0, .int .i64 0, .int .u8 0, .int .u8 0, .int .u8 0, .int .u8 0, .int .u8 0, .int .u8 0, .int .u8 0, .int .u8 0, .int .u8 0, .int .u8 0, .int .u8 0, .int .u8 0, .int .u8 0, .int .u8 0, .int .u8 0, .int .u8 0, .slice none 0 0] 32)).cell? _ = _ from World.cell?_alloc_new _ _ _ _) (fun j => frozen_new _ _ _ _) rfl HI2.out ?_; intro w8 hc hf hk hs; have HCP := Lib.hid hc; have HFP := Lib.hid hf; have HKP := Lib.hid ((((Keeps.refl (fun z => z = w7.heap.size) w7).alloc _).trans hk (fun _ _ h => h)).below (B := w7.heap.size) (Nat.le_refl _) (fun z h1 h2 => by omega)); have hsP : w8.heap.size = w7.heap.size + 1 := (by rw [hs]; simp); clear hc hf hk hs)
      rw [← hP]
      rw [← hP] at HCP HFP hsP
      have hleP : P ≤ w7.heap.size ∧ w7.heap.size ≤ P ∧ P + 1 ≤ w8.heap.size ∧ w8.heap.size ≤ P + 1 := by omega
      clear hP hsP
      have hs8 := HKP.out.size
      have HK8 := Lib.hid (show Keeps (· = tb) w1 w8 from HK7.out.trans (Keeps.of_below (F := (· = tb)) HKP.out) (fun _ _ h => h))
      have HT8 := Lib.hid (HT7.out.keeps (Keeps.of_below (F := fun _ => False) HKP.out) (fun h => h))
      have HO8 := Lib.hid (HO7.out.laterO HKP.out)
      have HO4G := Lib.hid (show ∀ k, (Value.slice ea en ec).ownBlock = some k → wr.heap.size ≤ k ∧ k < P from fun k hk => by have := HO7.out.from k hk; omega)
      have HPb := Lib.hid (parse18_any _ bo n c l head data most w8 rfl (HDof w8 HK8.out).out hB hcap hl hmo)
      clear HK7 HT7 HO7
      go_wp2_with fail
      refine HPb.out.mono ?_
      rintro e w9 hpost
      unfold RefPost at hpost
      rw [← HA1.out] at hpost
      simp only at hpost
      obtain ⟨dv2, rfl, ho9, hb9⟩ := hpost
      obtain ⟨fa, fc, rfl, _⟩ := ho9.bytes.form
      obtain ⟨fn, hfn⟩ : ∃ fn, fn = p1.data.length := ⟨_, rfl⟩
      rw [← hfn] at ho9 ⊢
      have HFn := Lib.hid hfn
      have HO9 := Lib.hid ho9
      have HB9 := Lib.hid hb9
      have hs9 := hb9.size
      clear hfn ho9 hb9 HPb
      obtain ⟨Q, hQ⟩ : ∃ x, x = w9.heap.size := ⟨_, rfl⟩
      go_upto_region 9 with (refine wpList_store_pd rfl 25 (.tmp 14) (.tmp 42) rfl w9.heap.size Pdu.pdZero (p1) (.slice none 0 0) (.slice fa fn fc) rfl rfl (fun j => show (w9.alloc (.cells #[.int .i64 0, .bool false, .int .i64 0, .int .i64 0, .int .i64 0, .int .i64 0, .int .i64 0, .int .i64 0, .int .i64 0, .int .i64 0, .int .u8 0, .int .u8 0, .int .u8 0, .int .u8 0, .int .u8 0, .int .u8 0, .int .u8 0, .int .u8 0, .int .u8 0, .int .u8 0, .int .u8 0, .int .u8 0, .int .u8 0, .int .u8 0, .int .u8 0, .int .u8 0, .slice none 0 0] 25)).cell? _ = _ from World.cell?_alloc_new _ _ _ _) (fun j => frozen_new _ _ _ _) rfl HIR.out ?_; intro wa hc hf hk hs; have HCQ := Lib.hid hc; have HFQ := Lib.hid hf; have HKQ := Lib.hid ((((Keeps.refl (fun z => z = w9.heap.size) w9).alloc _).trans hk (fun _ _ h => h)).below (B := w9.heap.size) (Nat.le_refl _) (fun z h1 h2 => by omega)); have hsQ : wa.heap.size = w9.heap.size + 1 := (by rw [hs]; simp); clear hc hf hk hs)
      rw [← hQ]
      rw [← hQ] at HCQ HFQ hsQ
      have hleQ : Q ≤ w9.heap.size ∧ w9.heap.size ≤ Q ∧ Q + 1 ≤ wa.heap.size ∧ wa.heap.size ≤ Q + 1 := by omega
      clear hQ hsQ
      have hs9a := HKQ.out.size
      have HB8a := Lib.hid (show Below w8.heap.size w8 wa from HB9.out.trans (HKQ.out.mono hs9))
      have HKa := Lib.hid (show Keeps (· = tb) w1 wa from HK8.out.trans (Keeps.of_below (F := (· = tb)) HB8a.out) (fun _ _ h => h))
      have HTa := Lib.hid (HT8.out.keeps (Keeps.of_below (F := fun _ => False) HB8a.out) (fun h => h))
      have HPof9 : ∀ V, Below wa.heap.size wa V → Hid (∀ j, V.cell? ⟨P, j, none⟩ = (p1.cells (.slice ea en ec))[j]?) := fun V hV j => ((HB8a.out.trans (hV.mono (by omega))).cell (p := ⟨P, j, none⟩) (by simp; omega)).trans (HCP.out j)
      have HQof9 : ∀ V, Below wa.heap.size wa V → Hid (∀ j, V.cell? ⟨Q, j, none⟩ = (p1.cells (.slice fa fn fc))[j]?) := fun V hV j => (hV.cell (p := ⟨Q, j, none⟩) (by simp; omega)).trans (HCQ.out j)
      have HOof9 : ∀ V, Below wa.heap.size wa V → Hid (Owns wr.heap.size V (.slice ea en ec) p1.data) := fun V hV => HO8.out.laterO (HB8a.out.trans (hV.mono (by omega)))
      have HFof9 : ∀ V, Below wa.heap.size wa V → Hid (BytesAt V (.slice fa fn fc) p1.data) := fun V hV => (HO9.out.bytes.below HKQ.out (HO9.out.lies.mono fun z h => h.2)).below hV (HO9.out.lies.mono fun z h => by omega)
      have y1 : ((n1 : Int) != (n1 : Int)) = false := by simp
      have y2 : (e1 != e1) = false := by simp
      clear HCP HFP HCQ HFQ HO9 HO8 HB9 HKQ HKP HB8a HK8 HT8
      have hk0 : Below wa.heap.size wa wa.drew := (Below.refl _ _).drew
      refine wp_region_held_drew (S := fun w' => Below wa.heap.size wa w') (by kernel_rfl) hk0 (fun hHeld => ?_)
      refine wpAnyH_take (i := 0) (v := .int .i64 (n1 : Int)) ops_at0 (by kernel_rfl) (by kernel_rfl) (by kernel_rfl) (fun _ _ _ h => h) (Or.inl ⟨by rfl, fun V hV => ?_⟩) hHeld ?_
      · go_simp
      simp only [Act.put, List.setIfInBounds_toArray, List.set_cons_zero, List.set_cons_succ]
      refine wpAnyH_take (i := 1) (v := .int .i64 (n1 : Int)) ops_at1 (by kernel_rfl) (by kernel_rfl) (by kernel_rfl) (fun _ _ _ h => h) (Or.inl ⟨by rfl, fun V hV => ?_⟩) hHeld ?_
      · go_simp
      simp only [Act.put, List.setIfInBounds_toArray, List.set_cons_zero, List.set_cons_succ]
      refine wpAnyH_take (i := 2) (v := .bool false) ops_at2 (by kernel_rfl) (by kernel_rfl) (by kernel_rfl) (fun _ _ _ h => h) (Or.inl ⟨by rfl, fun V hV => ?_⟩) hHeld ?_
      · go_simp
      simp only [Act.put, List.setIfInBounds_toArray, List.set_cons_zero, List.set_cons_succ]
      refine wpAnyH_take (i := 3) (v := .bool false) ops_at3 (by kernel_rfl) (by kernel_rfl) (by kernel_rfl) (fun _ _ _ h => h) (Or.inl ⟨by rfl, fun V hV => ?_⟩) hHeld ?_
      · go_simp
      simp only [Act.put, List.setIfInBounds_toArray, List.set_cons_zero, List.set_cons_succ]
      refine wpAnyH_take (i := 4) (v := .int .i64 e1) ops_at4 (by kernel_rfl) (by kernel_rfl) (by kernel_rfl) (fun _ _ _ h => h) (Or.inl ⟨by rfl, fun V hV => ?_⟩) hHeld ?_
      · go_simp
      simp only [Act.put, List.setIfInBounds_toArray, List.set_cons_zero, List.set_cons_succ]
      refine wpAnyH_take (i := 5) (v := .int .i64 e1) ops_at5 (by kernel_rfl) (by kernel_rfl) (by kernel_rfl) (fun _ _ _ h => h) (Or.inl ⟨by rfl, fun V hV => ?_⟩) hHeld ?_
      · go_simp
      simp only [Act.put, List.setIfInBounds_toArray, List.set_cons_zero, List.set_cons_succ]
      refine wpAnyH_take (i := 6) (v := .bool false) ops_at6 (by kernel_rfl) (by kernel_rfl) (by kernel_rfl) (fun _ _ _ h => h) (Or.inl ⟨by rfl, fun V hV => ?_⟩) hHeld ?_
      · go_simp
      simp only [Act.put, List.setIfInBounds_toArray, List.set_cons_zero, List.set_cons_succ]
      refine wpAnyH_take (i := 7) (v := .bool false) ops_at7 (by kernel_rfl) (by kernel_rfl) (by kernel_rfl) (fun _ _ _ h => h) (Or.inl ⟨by rfl, fun V hV => ?_⟩) hHeld ?_
      · go_simp
      simp only [Act.put, List.setIfInBounds_toArray, List.set_cons_zero, List.set_cons_succ]
      refine wpAnyH_take (i := 8) (v := .bool false) ops_at8 (by kernel_rfl) (by kernel_rfl) (by kernel_rfl) (fun _ _ _ h => h) (Or.inl ⟨by rfl, fun V hV => ?_⟩) hHeld ?_
      · go_simp
      simp only [Act.put, List.setIfInBounds_toArray, List.set_cons_zero, List.set_cons_succ]
      refine wpAnyH_take (i := 9) ops_at9 (by kernel_rfl) (by kernel_rfl) (by kernel_rfl) (fun _ _ _ h => h) (yieldsIf_load_mid (by rfl) 32 _ rfl P 0 rfl ((p1).cells (.slice ea en ec)).toList _ (fun V hV => pd_range (p1) _ _ _ (HPof9 V hV).out) HU2.out rfl (by rw [HI2.out]; rfl)) hHeld ?_
      simp only [Act.put, List.setIfInBounds_toArray, List.set_cons_zero, List.set_cons_succ]
      refine wpAnyH_take (i := 11) ops_at11 (by kernel_rfl) (by kernel_rfl) (by kernel_rfl) (fun _ _ _ h => h) (yieldsIf_load_mid (by rfl) 25 _ rfl Q 0 rfl ((p1).cells (.slice fa fn fc)).toList _ (fun V hV => pd_range (p1) _ _ _ (HQof9 V hV).out) HUR.out rfl (by rw [HIR.out]; rfl)) hHeld ?_
      simp only [Act.put, List.setIfInBounds_toArray, List.set_cons_zero, List.set_cons_succ]
      refine wpAnyH_ready (rs := [10]) (by kernel_rfl) (by simp) ?_
      refine AllReadyH.cons ops_at10 (fun K hK => ?_) AllReadyH.nil
      rw [if_pos (by rfl)]
      go_simp
      refine (told_any p1 (.slice ea en ec) _ (HOof9 _ hk0).out.bytes).mono ?_
      rintro e V1 ⟨rfl, hb⟩
      have hk1 : Below wa.heap.size wa V1 := hk0.trans (hb.mono hk0.size)
      clear hb
      go_wp2_with fail
      refine hK.out _ _ hk1 (fun hHeld => ?_)
      clear hK K
      refine wpAnyH_ready (rs := [12]) (by kernel_rfl) (by simp) ?_
      refine AllReadyH.cons ops_at12 (fun K hK => ?_) AllReadyH.nil
      rw [if_pos (by rfl)]
      go_simp
      refine (same18_refl p1 _ _ _ (HOof9 _ hk1).out.bytes (HFof9 _ hk1).out (by have := HEn.out; omega)).mono ?_
      rintro e V2 ⟨rfl, hb⟩
      have hk2 : Below wa.heap.size wa V2 := hk1.trans (hb.mono hk1.size)
      clear hb
      go_wp2_with fail
      refine hK.out _ _ hk2 (fun hHeld => ?_)
      clear hK K
      refine wpAnyH_take (i := 13) (v := .bool false) ops_at13 (by kernel_rfl) (by kernel_rfl) (by kernel_rfl) (fun _ _ _ h => h) (Or.inl ⟨by rfl, fun V hV => ?_⟩) hHeld ?_
      · go_simp
      simp only [Act.put, List.setIfInBounds_toArray, List.set_cons_zero, List.set_cons_succ]
      refine wpAnyH_take (i := 14) (v := .bool false) ops_at14 (by kernel_rfl) (by kernel_rfl) (by kernel_rfl) (fun _ _ _ h => h) (Or.inl ⟨by rfl, fun V hV => ?_⟩) hHeld ?_
      · go_simp
      simp only [Act.put, List.setIfInBounds_toArray, List.set_cons_zero, List.set_cons_succ]
      refine wpAnyH_done (by kernel_rfl) ?_ _
      have HPc := HPof9 V2 hk2
      have HOc := HOof9 V2 hk2
      have HKc := Lib.hid (show Keeps (· = tb) w1 V2 from HKa.out.trans (Keeps.of_below (F := (· = tb)) hk2) (fun _ _ h => h))
      have HTc := Lib.hid (HTa.out.keeps (Keeps.of_below (F := fun _ => False) hk2) (fun h => h))
      have hsV := hk2.size
      obtain ⟨G, hG⟩ : ∃ G : Nat, 0 < en → ea = some ⟨G, 0, none⟩ := by
        rcases HOc.out.2 with ⟨h0, hn0⟩ | ⟨g, cap, cur, hv, _⟩
        · exact ⟨0, fun h => by injection h0 with h1 h2 h3; omega⟩
        · exact ⟨g, fun _ => by injection hv⟩
      have HGG := Lib.hid hG
      have HGr : Hid (0 < en → wr.heap.size ≤ G ∧ G < P) := fun h => by
        have h1 := hG h
        have h4 := HO4G.out G (by rw [h1]; rfl)
        omega
      have HEnc := Lib.hid (show p1.data.length = en from HEn.out.symm)
      clear HPof9 HQof9 HOof9 HFof9 HKa HTa hG hk0 hk1 hk2
      go_wp2_with fail
      go_loopg [17] en (fun g s17 wx => ∃ (j : Nat) (lj : List Nat), s17 = .int .i64 j ∧ j + g = en ∧ Owns wr.heap.size wx (.slice ea en ec) lj ∧ Keeps (fun z => 0 < en ∧ z = G) V2 wx)
      case atStart => exact ⟨0, p1.data, rfl, by omega, HOc.out, Keeps.refl _ _⟩
      case round =>
        obtain ⟨j, lj, rfl, hjg, hown, hkr⟩ := hrel
        have HOr := Lib.hid hown
        have HKr := Lib.hid hkr
        have hll : lj.length = en := (hown.len).symm
        clear hown hkr
        have xP := (HKr.out.cell (p := ⟨P, 26, none⟩) (by simp; omega) (by rintro ⟨h1, h2⟩; have h3 : P = G := h2; have := HGr.out h1; omega)).trans ((HPc.out 26).trans (show (p1.cells (.slice ea en ec))[26]? = some (.slice ea en ec) from rfl))
        by_cases hj : j < en
        case neg =>
          have hje : j = en := by omega
          have tj : decide ((j : Int) < (en : Int)) = false := by rw [decide_eq_false_iff_not]; omega
          go_wp2_with fail
          go_roundg (gk1 - 1)
          case measure => omega
          case rel =>
            exact ⟨i + 1, by go_num, by omega, ⟨_, HTc.out.keeps HKr.out (by rintro ⟨h1, h2⟩; have := HGr.out h1; omega)⟩, HKc.out.trans HKr.out (fun z h1 h2 => by have := HGr.out h2.1; omega)⟩
        case pos =>
          have hea := HGG.out (by omega)
          have hgr := HGr.out (by omega)
          have tj : decide ((j : Int) < (en : Int)) = true := by rw [decide_eq_true_eq]; omega
          subst hea
          have x0 := HOr.out.cellNo j (by omega)
          have f0 := HOr.out.freeNo j
          have hji : (j : Int) < (en : Int) := by omega
          have hLl := Lib.hid hll
          clear hll
          generalize lj.getD j 0 = x at *
          have hx8 : IntKind.u8.wrap ((x : Int) + 1) = (((x + 1) % 256 : Nat) : Int) := by rw [IntKind.wrap_u8]; omega
          obtain ⟨y, hy⟩ : ∃ y, y = (x + 1) % 256 := ⟨_, rfl⟩
          rw [← hy] at hx8
          clear hy
          go_upto_region 14 with fail
          go_still_tail 10, (by kernel_rfl)
          change wpList _ _ _ _ _ (World.drew _)
          go_wp2_with fail
          go_roundg (gk - 1)
          case measure => omega
          case rel =>
            exact ⟨j + 1, lj.set j y, by go_num, by omega, HOr.out.set j y, (HKr.out.setCell (p := ⟨G, j, none⟩) (fun _ => ⟨by omega, rfl⟩) _).drew⟩
end Go.Proofs.Ytodmpchnjakchaa
