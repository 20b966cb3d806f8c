/-
  PduParts: the walk.
-/
import Derived.Test.YtodmpchnjakchaaPduKnown
import Derived.Test.YtodmpchnjakchaaPduPartsMath
namespace Go.Proofs.Ytodmpchnjakchaa
open Go.RowKit

theorem tmod_bounds (x : Int) (n : Nat) (h : 0 < n) : -(n : Int) < x.tmod n ∧ x.tmod n < n := by
  have e := Int.natAbs_tmod x n
  have : x.natAbs % (n : Int).natAbs < n := by
    have : (n : Int).natAbs = n := by omega
    rw [this]
    exact Nat.mod_lt _ h
  omega

theorem bytes_first {w : World} {a : Addr} {n c : Nat} {l : List Nat} (h : BytesAt w (.slice (some a) n c) l) {k : Nat} (hk : k ≤ n) : BytesAt w (.slice (some a) k c) (l.take k) := by
  have hn := h.length
  rcases Nat.eq_zero_or_pos k with h0 | h0
  · subst h0
    rw [List.take_zero]
    exact .inl ⟨rfl, _, _, rfl, fun h => by cases h⟩
  · obtain ⟨b, o, e, _, _⟩ := h.at 0 (by omega)
    injection e with e
    subst e
    have := h.part 0 k c (by omega) hk
    simpa using this

set_option maxRecDepth 100000 in
set_option maxHeartbeats 6400000 in
theorem parts18_any (bo : Option Addr) (n c : Nat) (l : List Nat) (head data : Bool) (most at_ : Int) (w : World) (h : BytesAt w (.slice bo n c) l) (hB : Crc.Bytes l) (hcap : n ≤ c) (hl : n ≤ 140737488355328) (hmo : i64s most) (hat : i64s at_) :
    Calls Try.prog 5 #[.slice bo n c, .bool head, .bool data, .int .i64 most, .int .i64 at_] w fun e w' => e = .returned (.bool true) ∧ Below w.heap.size w w' := by
  have hn := h.length
  have hlies := h.lies
  have HIR := Lib.hid (show (Try.prog.info? 25).map (·.size) = some 27 by kernel_rfl)
  have HI2 := Lib.hid (show (Try.prog.info? 32).map (·.size) = some 27 by kernel_rfl)
  have HU2 := Lib.hid (Try.underlying32)
  have hm1 := hmo.1
  have hm2 := hmo.2
  have ha1 := hat.1
  have ha2 := hat.2
  have HD := Lib.hid h; clear h
  go_enter Try.func5, Try.ntmps5
  go_wp2_with fail
  refine (new_any w).mono ?_
  rintro e w1 ⟨rfl, ht1, hb1, hs1⟩
  obtain ⟨tb, htb⟩ : ∃ tb, tb = w.heap.size := ⟨_, rfl⟩
  rw [← htb] at ht1 ⊢
  have hsz : w.heap.size ≤ tb ∧ tb ≤ w.heap.size ∧ tb + 1 ≤ w1.heap.size := by omega
  have HBw1 := Lib.hid hb1
  have hlt : LiesIn (.slice bo n c) (· ≠ tb) := hlies.mono fun k hk => by omega
  have HDof : ∀ V, Keeps (· = tb) w1 V → Hid (BytesAt V (.slice bo n c) l) := fun V hV => (HD.out.later HBw1.out).keeps hV hlt
  have HT1 := Lib.hid ht1
  clear hs1 htb hb1 ht1
  go_wp2_with fail
  refine (known_any tb false w1 HT1.out).mono ?_
  rintro e w2 ⟨rfl, ⟨d2, ht2⟩, hk2⟩
  have HT2 := Lib.hid ht2
  have HK2 := Lib.hid hk2
  clear ht2 hk2 HT1
  have q1 := tmod_bounds at_ (n + 1) (by omega)
  rw [show ((n + 1 : Nat) : Int) = (n : Int) + 1 by omega] at q1
  obtain ⟨q1, q2⟩ := q1
  go_upto_if 29 with fail
  generalize at_.tmod ((n : Int) + 1) = q at *
  go_cut [12] from 29 to 34 (fun v wx => ∃ k : Nat, v = .int .i64 k ∧ k ≤ n ∧ w2 = wx)
  case first =>
    by_cases hq : q < 0
    · have tq : decide (q < 0) = true := by rw [decide_eq_true_eq]; exact hq
      go_wp2_with fail
      go_meet
      exact ⟨(q + n + 1).toNat, by congr 1; omega, by omega, rfl⟩
    · have tq : decide (q < 0) = false := by rw [decide_eq_false_iff_not]; omega
      go_wp2_with fail
      go_meet
      exact ⟨q.toNat, by congr 1; omega, by omega, rfl⟩
  case rest =>
    obtain ⟨k, rfl, hkn, hWc⟩ := hcut
    subst hWc
    obtain ⟨A1, hA1⟩ : ∃ A1, A1 = Pdu.parse l head data most := ⟨_, rfl⟩
    have HPa := Lib.hid (parse_any _ bo n c l head data most tb d2 w2 rfl (HDof w2 HK2.out).out hB hcap (by omega) hmo HT2.out hlt)
    go_wp2_with fail
    refine HPa.out.mono ?_
    rintro e w7 hpost
    unfold ParsePost at hpost
    rw [← hA1] at hpost
    obtain ⟨p1, n1, e1⟩ := A1
    simp only at hpost
    obtain ⟨dv1, rfl, ho7, ⟨d8, ht7⟩, hk7⟩ := hpost
    obtain ⟨ea, ec, rfl, _⟩ := ho7.bytes.form
    obtain ⟨en, hen⟩ : ∃ en, en = p1.data.length := ⟨_, rfl⟩
    rw [← hen] at ho7 ⊢
    have HEn := Lib.hid hen
    have HO7' := Lib.hid ho7
    have HK7 := Lib.hid (HK2.out.trans hk7 (fun _ _ h => h))
    have hs7 := hk7.size
    have hs2 := HK2.out.size
    have HA1 := Lib.hid hA1
    have HT7 := Lib.hid ht7
    clear hen ho7 hk7 ht7 hA1 HPa
    obtain ⟨P, hP⟩ : ∃ x, x = w7.heap.size := ⟨_, rfl⟩
    go_upto_region 8 with (refine wpList_store_pd rfl 32 (.tmp 13) (.tmp 42) rfl w7.heap.size Pdu.pdZero (p1) (.slice none 0 0) (.slice ea en ec) rfl rfl (fun j => show (w7.alloc (.cells #[.int .i64 0, .bool false, .int .i64 0, .int .i64 0, .int .i64 0, .int .i64 0, .int .i64 0, .int .i64 0, .int .i64 0, .int .i64 0, .int .u8 0, .int .u8 0, .int .u8 0, .int .u8 0, .int .u8 0, .int .u8 0, .int .u8 0, .int .u8 0, .int .u8 0, .int .u8 0, .int .u8 0, .int .u8 0, .int .u8 0, .int .u8 0, .int .u8 0, .int .u8 0, .slice none 0 0] 32)).cell? _ = _ from World.cell?_alloc_new _ _ _ _) (fun j => frozen_new _ _ _ _) rfl HI2.out ?_; intro w8 hc hf hk hs; have HCP := Lib.hid hc; have HFP := Lib.hid hf; have HKP := Lib.hid ((((Keeps.refl (fun z => z = w7.heap.size) w7).alloc _).trans hk (fun _ _ h => h)).below (B := w7.heap.size) (Nat.le_refl _) (fun z h1 h2 => by omega)); have hsP : w8.heap.size = w7.heap.size + 1 := (by rw [hs]; simp); clear hc hf hk hs)
    rw [← hP]
    rw [← hP] at HCP HFP hsP
    have hleP : P ≤ w7.heap.size ∧ w7.heap.size ≤ P ∧ P + 1 ≤ w8.heap.size ∧ w8.heap.size ≤ P + 1 := by omega
    clear hP hsP
    have hs8 := HKP.out.size
    have HK8 := Lib.hid (show Keeps (· = tb) w1 w8 from HK7.out.trans (Keeps.of_below (F := (· = tb)) HKP.out) (fun _ _ h => h))
    have HT8 := Lib.hid (HT7.out.keeps (Keeps.of_below (F := fun _ => False) HKP.out) (fun h => h))
    have HO7 := Lib.hid (HO7'.out.laterO HKP.out)
    clear HO7' HK7 HT7 HK2 HT2
    cases bo with
    | none =>
      obtain ⟨hn0, hc0⟩ : n = 0 ∧ c = 0 := by
        rcases HD.out with ⟨_, ao, cap, e, h0⟩ | ⟨b, of', cap, e, _⟩
        · injection e with e1 e2 e3
          exact ⟨e2, by rw [e3]; exact h0 e1.symm⟩
        · injection e with e1; cases e1
      have HN0 := Lib.hid hn0
      have HC0 := Lib.hid hc0
      have HK0 := Lib.hid (show k = 0 by omega)
      clear hn0 hc0
      have HBk := Lib.hid (show BytesAt w8 (.slice none k c) (l.take k) from by rw [HK0.out, HC0.out, List.take_zero]; exact .inl ⟨rfl, none, 0, rfl, fun _ => rfl⟩)
      have hkl : (l.take k).length = k := by rw [List.length_take, Nat.min_eq_left (by omega)]
      have HKl := Lib.hid hkl
      have hls : LiesIn (.slice none k c) (· ≠ tb) := fun a n c e hn => by injection e with e1; cases e1
      obtain ⟨A2, hA2⟩ : ∃ A2, A2 = Pdu.parse (l.take k) head data most := ⟨_, rfl⟩
      have HPb := Lib.hid (parse_any _ _ k c (l.take k) head data most tb d8 w8 rfl HBk.out (take_bytes hB k) (by omega) (by omega) hmo HT8.out hls)
      go_wp2_with fail
      refine HPb.out.mono ?_
      rintro e w9 hpost
      unfold ParsePost at hpost
      rw [← hA2] at hpost
      obtain ⟨q1, m1, f1⟩ := A2
      simp only at hpost
      obtain ⟨dv2, rfl, ho9, ⟨d9, ht9⟩, hk9⟩ := hpost
      obtain ⟨fa, fc, rfl, _⟩ := ho9.bytes.form
      obtain ⟨fn, hfn⟩ : ∃ fn, fn = q1.data.length := ⟨_, rfl⟩
      rw [← hfn] at ho9 ⊢
      have HFn := Lib.hid hfn
      have HO9 := Lib.hid ho9
      have HK9 := Lib.hid hk9
      have hs9 := hk9.size
      have HA2 := Lib.hid hA2
      clear hfn ho9 hk9 ht9 hA2 HPb
      obtain ⟨Q, hQ⟩ : ∃ x, x = w9.heap.size := ⟨_, rfl⟩
      go_upto_region 9 with (refine wpList_store_pd rfl 32 (.tmp 16) (.tmp 54) rfl w9.heap.size Pdu.pdZero (q1) (.slice none 0 0) (.slice fa fn fc) rfl rfl (fun j => show (w9.alloc (.cells #[.int .i64 0, .bool false, .int .i64 0, .int .i64 0, .int .i64 0, .int .i64 0, .int .i64 0, .int .i64 0, .int .i64 0, .int .i64 0, .int .u8 0, .int .u8 0, .int .u8 0, .int .u8 0, .int .u8 0, .int .u8 0, .int .u8 0, .int .u8 0, .int .u8 0, .int .u8 0, .int .u8 0, .int .u8 0, .int .u8 0, .int .u8 0, .int .u8 0, .int .u8 0, .slice none 0 0] 32)).cell? _ = _ from World.cell?_alloc_new _ _ _ _) (fun j => frozen_new _ _ _ _) rfl HI2.out ?_; intro wa hc hf hk hs; have HCQ := Lib.hid hc; have HFQ := Lib.hid hf; have HKQ := Lib.hid ((((Keeps.refl (fun z => z = w9.heap.size) w9).alloc _).trans hk (fun _ _ h => h)).below (B := w9.heap.size) (Nat.le_refl _) (fun z h1 h2 => by omega)); have hsQ : wa.heap.size = w9.heap.size + 1 := (by rw [hs]; simp); clear hc hf hk hs)
      rw [← hQ]
      rw [← hQ] at HCQ HFQ hsQ
      have hleQ : Q ≤ w9.heap.size ∧ w9.heap.size ≤ Q ∧ Q + 1 ≤ wa.heap.size ∧ wa.heap.size ≤ Q + 1 := by omega
      clear hQ hsQ
      have hs9a := HKQ.out.size
      have HKa := Lib.hid (show Keeps (· = tb) w1 wa from (HK8.out.trans HK9.out (fun _ _ h => h)).trans (Keeps.of_below (F := (· = tb)) HKQ.out) (fun _ _ h => h))
      have HK8a := Lib.hid (show Keeps (· = tb) w8 wa from HK9.out.trans (Keeps.of_below (F := (· = tb)) HKQ.out) (fun _ _ h => h))
      by_cases hbad : most < 0 ∨ 1024 < most
      case pos =>
        have e1v := HA1.out
        have e2v := HA2.out
        rw [Pdu.parse_bad _ _ _ _ hbad] at e1v e2v
        injection e1v with g1 g2
        injection g2 with g2 g3
        injection e2v with g4 g5
        injection g5 with g5 g6
        subst g2 g3 g5 g6
        rcases hbad with hb | hb
        · have t1 : decide (most < 0) = true := by rw [decide_eq_true_eq]; exact hb
          go_wp2_with fail
          go_ret
          exact ⟨rfl, HBw1.out.trans (HKa.out.below (B := w.heap.size) (by omega) (fun z h1 h2 => by omega))⟩
        · have t1 : decide (most < 0) = false := by rw [decide_eq_false_iff_not]; omega
          have t2 : decide (1024 < most) = true := by rw [decide_eq_true_eq]; exact hb
          go_wp2_with fail
          go_ret
          exact ⟨rfl, HBw1.out.trans (HKa.out.below (B := w.heap.size) (by omega) (fun z h1 h2 => by omega))⟩
      case neg =>
        have r1 := Pdu.parse_reach l head data most
        have r2 := Pdu.parse_reach (l.take k) head data most
        have c1 := Pdu.parse_code l head data most hbad
        have c2 := Pdu.parse_code (l.take k) head data most hbad
        have hpt := Pdu.parse_take l head data most k (by omega) hbad
        rw [← HA1.out] at r1 c1 hpt
        rw [← HA2.out] at r2 c2 hpt
        simp only at r1 r2 c1 c2 hpt
        rw [hkl] at r2
        have HPt := Lib.hid hpt
        have r3 := Pdu.parse_data (l.take k) head data most
        rw [← HA2.out, hkl] at r3
        have HDl := Lib.hid (show q1.data.length ≤ k from r3)
        clear r3
        have b1 : (e1 == 1) = false := by rw [beq_eq_false_iff_ne]; exact c1
        have b2 : (f1 == 1) = false := by rw [beq_eq_false_iff_ne]; exact c2
        have x1 : decide ((n1 : Int) < 0) = false := by rw [decide_eq_false_iff_not]; omega
        have x2 : decide ((n : Int) < (n1 : Int)) = false := by rw [decide_eq_false_iff_not]; omega
        have x3 : decide ((k : Int) < (m1 : Int)) = false := by rw [decide_eq_false_iff_not]; omega
        have x4 : decide ((1080 : Int) < (n1 : Int)) = false := by rw [decide_eq_false_iff_not]; omega
        clear hpt c1 c2
        have r1a := r1.1
        have r1b := r1.2.1
        have r2a := r2.1
        clear r1 r2 hbad
        rcases HPt.out with ⟨g1, g2, g3⟩ | ⟨g1, g2⟩
        · subst g1 g2
          by_cases hz : n1 = 0
          · subst hz
            go_wp2_with fail
            go_ret
            exact ⟨rfl, HBw1.out.trans (HKa.out.below (B := w.heap.size) (by omega) (fun z h1 h2 => by omega))⟩
          · have y1 : ((n1 : Int) == 0) = false := by rw [beq_eq_false_iff_ne]; omega
            have y2 : decide ((k : Int) < (n1 : Int)) = true := by rw [decide_eq_true_eq]; omega
            have y3 : decide (k < n1) = true := by rw [decide_eq_true_eq]; omega
            have Y3 := Lib.hid y3
            clear g3 hz
            go_wp2_with fail
            go_ret
            exact ⟨by first | rfl | (rw [← Y3.out]; rfl), HBw1.out.trans (HKa.out.below (B := w.heap.size) (by omega) (fun z h1 h2 => by omega))⟩
        · injection g1 with g1 g3
          injection g3 with g3 g4
          subst g1 g3 g4
          have y1 : ((m1 : Int) == 0) = false := by rw [beq_eq_false_iff_ne]; omega
          have y2 : ((m1 : Int) == (m1 : Int)) = true := by simp
          have y3 : (f1 == f1) = true := by simp
          have HPof9 : ∀ V, Below wa.heap.size wa V → Hid (∀ j, V.cell? ⟨P, j, none⟩ = (q1.cells (.slice ea en ec))[j]?) := fun V hV0 j => have hV := HK8a.out.trans (Keeps.of_below (F := (· = tb)) hV0) (fun _ _ h => h); (hV.cell (p := ⟨P, j, none⟩) (by simp; omega) (by simp; omega)).trans (HCP.out j)
          have HQof9 : ∀ V, Below wa.heap.size wa V → Hid (∀ j, V.cell? ⟨Q, j, none⟩ = (q1.cells (.slice fa fn fc))[j]?) := fun V hV j => (hV.cell (p := ⟨Q, j, none⟩) (by simp; omega)).trans (HCQ.out j)
          have HEof9 : ∀ V, Below wa.heap.size wa V → Hid (BytesAt V (.slice ea en ec) q1.data) := fun V hV0 => have hV := HK8a.out.trans (Keeps.of_below (F := (· = tb)) hV0) (fun _ _ h => h); HO7.out.bytes.keeps hV (HO7.out.lies.mono fun z h => by omega)
          have HFof9 : ∀ V, Below wa.heap.size wa V → Hid (BytesAt V (.slice fa fn fc) q1.data) := fun V hV => (HO9.out.bytes.below HKQ.out (HO9.out.lies.mono fun z h => h.2)).below hV (HO9.out.lies.mono fun z h => by omega)
          clear HCP HFP HCQ HFQ HO9 HBk HPt hls g2
          go_upto_region 15 with fail
          have hk0 : Below wa.heap.size wa wa.drew := (Below.refl _ _).drew
          refine wp_region_held_drew (S := fun w' => Below wa.heap.size wa w') (by kernel_rfl) hk0 (fun hHeld => ?_)
          refine wpAnyH_take (i := 0) (v := .int .i64 (m1 : Int)) ops_at0 (by kernel_rfl) (by kernel_rfl) (by kernel_rfl) (fun _ _ _ h => h) (Or.inl ⟨by rfl, fun V hV => ?_⟩) hHeld ?_
          · go_simp
          simp only [Act.put, List.setIfInBounds_toArray, List.set_cons_zero, List.set_cons_succ]
          refine wpAnyH_take (i := 1) (v := .int .i64 (m1 : Int)) ops_at1 (by kernel_rfl) (by kernel_rfl) (by kernel_rfl) (fun _ _ _ h => h) (Or.inl ⟨by rfl, fun V hV => ?_⟩) hHeld ?_
          · go_simp
          simp only [Act.put, List.setIfInBounds_toArray, List.set_cons_zero, List.set_cons_succ]
          refine wpAnyH_take (i := 2) (v := .bool true) ops_at2 (by kernel_rfl) (by kernel_rfl) (by kernel_rfl) (fun _ _ _ h => h) (Or.inl ⟨by rfl, fun V hV => ?_⟩) hHeld ?_
          · go_simp
          simp only [Act.put, List.setIfInBounds_toArray, List.set_cons_zero, List.set_cons_succ]
          refine wpAnyH_take (i := 3) (v := .bool true) ops_at3 (by kernel_rfl) (by kernel_rfl) (by kernel_rfl) (fun _ _ _ h => h) (Or.inl ⟨by rfl, fun V hV => ?_⟩) hHeld ?_
          · go_simp
          simp only [Act.put, List.setIfInBounds_toArray, List.set_cons_zero, List.set_cons_succ]
          refine wpAnyH_take (i := 4) (v := .int .i64 f1) ops_at4 (by kernel_rfl) (by kernel_rfl) (by kernel_rfl) (fun _ _ _ h => h) (Or.inl ⟨by rfl, fun V hV => ?_⟩) hHeld ?_
          · go_simp
          simp only [Act.put, List.setIfInBounds_toArray, List.set_cons_zero, List.set_cons_succ]
          refine wpAnyH_take (i := 5) (v := .int .i64 f1) ops_at5 (by kernel_rfl) (by kernel_rfl) (by kernel_rfl) (fun _ _ _ h => h) (Or.inl ⟨by rfl, fun V hV => ?_⟩) hHeld ?_
          · go_simp
          simp only [Act.put, List.setIfInBounds_toArray, List.set_cons_zero, List.set_cons_succ]
          refine wpAnyH_take (i := 6) (v := .bool true) ops_at6 (by kernel_rfl) (by kernel_rfl) (by kernel_rfl) (fun _ _ _ h => h) (Or.inl ⟨by rfl, fun V hV => ?_⟩) hHeld ?_
          · go_simp
          simp only [Act.put, List.setIfInBounds_toArray, List.set_cons_zero, List.set_cons_succ]
          refine wpAnyH_take (i := 7) (v := .bool true) ops_at7 (by kernel_rfl) (by kernel_rfl) (by kernel_rfl) (fun _ _ _ h => h) (Or.inl ⟨by rfl, fun V hV => ?_⟩) hHeld ?_
          · go_simp
          simp only [Act.put, List.setIfInBounds_toArray, List.set_cons_zero, List.set_cons_succ]
          refine wpAnyH_take (i := 8) (v := .bool true) ops_at8 (by kernel_rfl) (by kernel_rfl) (by kernel_rfl) (fun _ _ _ h => h) (Or.inl ⟨by rfl, fun V hV => ?_⟩) hHeld ?_
          · go_simp
          simp only [Act.put, List.setIfInBounds_toArray, List.set_cons_zero, List.set_cons_succ]
          refine wpAnyH_take (i := 9) ops_at9 (by kernel_rfl) (by kernel_rfl) (by kernel_rfl) (fun _ _ _ h => h) (yieldsIf_load_mid (by rfl) 32 _ rfl P 0 rfl ((q1).cells (.slice ea en ec)).toList _ (fun V hV => pd_range (q1) _ _ _ (HPof9 V hV).out) HU2.out rfl (by rw [HI2.out]; rfl)) hHeld ?_
          simp only [Act.put, List.setIfInBounds_toArray, List.set_cons_zero, List.set_cons_succ]
          refine wpAnyH_take (i := 11) ops_at11 (by kernel_rfl) (by kernel_rfl) (by kernel_rfl) (fun _ _ _ h => h) (yieldsIf_load_mid (by rfl) 32 _ rfl Q 0 rfl ((q1).cells (.slice fa fn fc)).toList _ (fun V hV => pd_range (q1) _ _ _ (HQof9 V hV).out) HU2.out rfl (by rw [HI2.out]; rfl)) hHeld ?_
          simp only [Act.put, List.setIfInBounds_toArray, List.set_cons_zero, List.set_cons_succ]
          refine wpAnyH_ready (rs := [10]) (by kernel_rfl) (by simp) ?_
          refine AllReadyH.cons ops_at10 (fun K hK => ?_) AllReadyH.nil
          rw [if_pos (by rfl)]
          go_simp
          refine (told_any q1 (.slice ea en ec) _ (HEof9 _ hk0).out).mono ?_
          rintro e V1 ⟨rfl, hb⟩
          have hk1 : Below wa.heap.size wa V1 := hk0.trans (hb.mono hk0.size)
          clear hb
          go_wp2_with fail
          refine hK.out _ _ hk1 (fun hHeld => ?_)
          clear hK K
          refine wpAnyH_ready (rs := [12]) (by kernel_rfl) (by simp) ?_
          refine AllReadyH.cons ops_at12 (fun K hK => ?_) AllReadyH.nil
          rw [if_pos (by rfl)]
          go_simp
          refine (told_any q1 (.slice fa fn fc) _ (HFof9 _ hk1).out).mono ?_
          rintro e V2 ⟨rfl, hb⟩
          have hk2 : Below wa.heap.size wa V2 := hk1.trans (hb.mono hk1.size)
          clear hb
          go_wp2_with fail
          refine hK.out _ _ hk2 (fun hHeld => ?_)
          clear hK K
          refine wpAnyH_ready (rs := [13]) (by kernel_rfl) (by simp) ?_
          refine AllReadyH.cons ops_at13 (fun K hK => ?_) AllReadyH.nil
          rw [if_pos (by rfl)]
          go_simp
          refine (same18_refl q1 _ _ _ (HEof9 _ hk2).out (HFof9 _ hk2).out (by have := HDl.out; omega)).mono ?_
          rintro e V3 ⟨rfl, hb⟩
          have hk3 : Below wa.heap.size wa V3 := hk2.trans (hb.mono hk2.size)
          clear hb
          go_wp2_with fail
          refine hK.out _ _ hk3 (fun hHeld => ?_)
          clear hK K
          refine wpAnyH_take (i := 14) (v := .bool true) ops_at14 (by kernel_rfl) (by kernel_rfl) (by kernel_rfl) (fun _ _ _ h => h) (Or.inl ⟨by rfl, fun V hV => ?_⟩) hHeld ?_
          · go_simp
          simp only [Act.put, List.setIfInBounds_toArray, List.set_cons_zero, List.set_cons_succ]
          refine wpAnyH_take (i := 15) (v := .bool true) ops_at15 (by kernel_rfl) (by kernel_rfl) (by kernel_rfl) (fun _ _ _ h => h) (Or.inl ⟨by rfl, fun V hV => ?_⟩) hHeld ?_
          · go_simp
          simp only [Act.put, List.setIfInBounds_toArray, List.set_cons_zero, List.set_cons_succ]
          refine wpAnyH_done (by kernel_rfl) ?_ _
          go_wp2_with fail
          go_ret
          exact ⟨rfl, HBw1.out.trans ((HKa.out.trans (Keeps.of_below (F := (· = tb)) hk3) (fun _ _ h => h)).below (B := w.heap.size) (by omega) (fun z h1 h2 => by omega))⟩
    | some a =>
      have HBk := Lib.hid (show BytesAt w8 (.slice (some a) k c) (l.take k) from bytes_first (HDof w8 HK8.out).out hkn)
      have hkl : (l.take k).length = k := by rw [List.length_take, Nat.min_eq_left (by omega)]
      have HKl := Lib.hid hkl
      have hls : LiesIn (.slice (some a) k c) (· ≠ tb) := fun a n c e hn => by injection e with e1 e2 e3; injection e1 with e1; rw [← e1]; exact hlt _ _ _ rfl (by omega)
      obtain ⟨A2, hA2⟩ : ∃ A2, A2 = Pdu.parse (l.take k) head data most := ⟨_, rfl⟩
      have HPb := Lib.hid (parse_any _ _ k c (l.take k) head data most tb d8 w8 rfl HBk.out (take_bytes hB k) (by omega) (by omega) hmo HT8.out hls)
      go_wp2_with fail
      refine HPb.out.mono ?_
      rintro e w9 hpost
      unfold ParsePost at hpost
      rw [← hA2] at hpost
      obtain ⟨q1, m1, f1⟩ := A2
      simp only at hpost
      obtain ⟨dv2, rfl, ho9, ⟨d9, ht9⟩, hk9⟩ := hpost
      obtain ⟨fa, fc, rfl, _⟩ := ho9.bytes.form
      obtain ⟨fn, hfn⟩ : ∃ fn, fn = q1.data.length := ⟨_, rfl⟩
      rw [← hfn] at ho9 ⊢
      have HFn := Lib.hid hfn
      have HO9 := Lib.hid ho9
      have HK9 := Lib.hid hk9
      have hs9 := hk9.size
      have HA2 := Lib.hid hA2
      clear hfn ho9 hk9 ht9 hA2 HPb
      obtain ⟨Q, hQ⟩ : ∃ x, x = w9.heap.size := ⟨_, rfl⟩
      go_upto_region 9 with (refine wpList_store_pd rfl 32 (.tmp 16) (.tmp 54) rfl w9.heap.size Pdu.pdZero (q1) (.slice none 0 0) (.slice fa fn fc) rfl rfl (fun j => show (w9.alloc (.cells #[.int .i64 0, .bool false, .int .i64 0, .int .i64 0, .int .i64 0, .int .i64 0, .int .i64 0, .int .i64 0, .int .i64 0, .int .i64 0, .int .u8 0, .int .u8 0, .int .u8 0, .int .u8 0, .int .u8 0, .int .u8 0, .int .u8 0, .int .u8 0, .int .u8 0, .int .u8 0, .int .u8 0, .int .u8 0, .int .u8 0, .int .u8 0, .int .u8 0, .int .u8 0, .slice none 0 0] 32)).cell? _ = _ from World.cell?_alloc_new _ _ _ _) (fun j => frozen_new _ _ _ _) rfl HI2.out ?_; intro wa hc hf hk hs; have HCQ := Lib.hid hc; have HFQ := Lib.hid hf; have HKQ := Lib.hid ((((Keeps.refl (fun z => z = w9.heap.size) w9).alloc _).trans hk (fun _ _ h => h)).below (B := w9.heap.size) (Nat.le_refl _) (fun z h1 h2 => by omega)); have hsQ : wa.heap.size = w9.heap.size + 1 := (by rw [hs]; simp); clear hc hf hk hs)
      rw [← hQ]
      rw [← hQ] at HCQ HFQ hsQ
      have hleQ : Q ≤ w9.heap.size ∧ w9.heap.size ≤ Q ∧ Q + 1 ≤ wa.heap.size ∧ wa.heap.size ≤ Q + 1 := by omega
      clear hQ hsQ
      have hs9a := HKQ.out.size
      have HKa := Lib.hid (show Keeps (· = tb) w1 wa from (HK8.out.trans HK9.out (fun _ _ h => h)).trans (Keeps.of_below (F := (· = tb)) HKQ.out) (fun _ _ h => h))
      have HK8a := Lib.hid (show Keeps (· = tb) w8 wa from HK9.out.trans (Keeps.of_below (F := (· = tb)) HKQ.out) (fun _ _ h => h))
      by_cases hbad : most < 0 ∨ 1024 < most
      case pos =>
        have e1v := HA1.out
        have e2v := HA2.out
        rw [Pdu.parse_bad _ _ _ _ hbad] at e1v e2v
        injection e1v with g1 g2
        injection g2 with g2 g3
        injection e2v with g4 g5
        injection g5 with g5 g6
        subst g2 g3 g5 g6
        rcases hbad with hb | hb
        · have t1 : decide (most < 0) = true := by rw [decide_eq_true_eq]; exact hb
          go_wp2_with fail
          go_ret
          exact ⟨rfl, HBw1.out.trans (HKa.out.below (B := w.heap.size) (by omega) (fun z h1 h2 => by omega))⟩
        · have t1 : decide (most < 0) = false := by rw [decide_eq_false_iff_not]; omega
          have t2 : decide (1024 < most) = true := by rw [decide_eq_true_eq]; exact hb
          go_wp2_with fail
          go_ret
          exact ⟨rfl, HBw1.out.trans (HKa.out.below (B := w.heap.size) (by omega) (fun z h1 h2 => by omega))⟩
      case neg =>
        have r1 := Pdu.parse_reach l head data most
        have r2 := Pdu.parse_reach (l.take k) head data most
        have c1 := Pdu.parse_code l head data most hbad
        have c2 := Pdu.parse_code (l.take k) head data most hbad
        have hpt := Pdu.parse_take l head data most k (by omega) hbad
        rw [← HA1.out] at r1 c1 hpt
        rw [← HA2.out] at r2 c2 hpt
        simp only at r1 r2 c1 c2 hpt
        rw [hkl] at r2
        have HPt := Lib.hid hpt
        have r3 := Pdu.parse_data (l.take k) head data most
        rw [← HA2.out, hkl] at r3
        have HDl := Lib.hid (show q1.data.length ≤ k from r3)
        clear r3
        have b1 : (e1 == 1) = false := by rw [beq_eq_false_iff_ne]; exact c1
        have b2 : (f1 == 1) = false := by rw [beq_eq_false_iff_ne]; exact c2
        have x1 : decide ((n1 : Int) < 0) = false := by rw [decide_eq_false_iff_not]; omega
        have x2 : decide ((n : Int) < (n1 : Int)) = false := by rw [decide_eq_false_iff_not]; omega
        have x3 : decide ((k : Int) < (m1 : Int)) = false := by rw [decide_eq_false_iff_not]; omega
        have x4 : decide ((1080 : Int) < (n1 : Int)) = false := by rw [decide_eq_false_iff_not]; omega
        clear hpt c1 c2
        have r1a := r1.1
        have r1b := r1.2.1
        have r2a := r2.1
        clear r1 r2 hbad
        rcases HPt.out with ⟨g1, g2, g3⟩ | ⟨g1, g2⟩
        · subst g1 g2
          by_cases hz : n1 = 0
          · subst hz
            go_wp2_with fail
            go_ret
            exact ⟨rfl, HBw1.out.trans (HKa.out.below (B := w.heap.size) (by omega) (fun z h1 h2 => by omega))⟩
          · have y1 : ((n1 : Int) == 0) = false := by rw [beq_eq_false_iff_ne]; omega
            have y2 : decide ((k : Int) < (n1 : Int)) = true := by rw [decide_eq_true_eq]; omega
            have y3 : decide (k < n1) = true := by rw [decide_eq_true_eq]; omega
            have Y3 := Lib.hid y3
            clear g3 hz
            go_wp2_with fail
            go_ret
            exact ⟨by first | rfl | (rw [← Y3.out]; rfl), HBw1.out.trans (HKa.out.below (B := w.heap.size) (by omega) (fun z h1 h2 => by omega))⟩
        · injection g1 with g1 g3
          injection g3 with g3 g4
          subst g1 g3 g4
          have y1 : ((m1 : Int) == 0) = false := by rw [beq_eq_false_iff_ne]; omega
          have y2 : ((m1 : Int) == (m1 : Int)) = true := by simp
          have y3 : (f1 == f1) = true := by simp
          have HPof9 : ∀ V, Below wa.heap.size wa V → Hid (∀ j, V.cell? ⟨P, j, none⟩ = (q1.cells (.slice ea en ec))[j]?) := fun V hV0 j => have hV := HK8a.out.trans (Keeps.of_below (F := (· = tb)) hV0) (fun _ _ h => h); (hV.cell (p := ⟨P, j, none⟩) (by simp; omega) (by simp; omega)).trans (HCP.out j)
          have HQof9 : ∀ V, Below wa.heap.size wa V → Hid (∀ j, V.cell? ⟨Q, j, none⟩ = (q1.cells (.slice fa fn fc))[j]?) := fun V hV j => (hV.cell (p := ⟨Q, j, none⟩) (by simp; omega)).trans (HCQ.out j)
          have HEof9 : ∀ V, Below wa.heap.size wa V → Hid (BytesAt V (.slice ea en ec) q1.data) := fun V hV0 => have hV := HK8a.out.trans (Keeps.of_below (F := (· = tb)) hV0) (fun _ _ h => h); HO7.out.bytes.keeps hV (HO7.out.lies.mono fun z h => by omega)
          have HFof9 : ∀ V, Below wa.heap.size wa V → Hid (BytesAt V (.slice fa fn fc) q1.data) := fun V hV => (HO9.out.bytes.below HKQ.out (HO9.out.lies.mono fun z h => h.2)).below hV (HO9.out.lies.mono fun z h => by omega)
          clear HCP HFP HCQ HFQ HO9 HBk HPt hls g2
          go_upto_region 15 with fail
          have hk0 : Below wa.heap.size wa wa.drew := (Below.refl _ _).drew
          refine wp_region_held_drew (S := fun w' => Below wa.heap.size wa w') (by kernel_rfl) hk0 (fun hHeld => ?_)
          refine wpAnyH_take (i := 0) (v := .int .i64 (m1 : Int)) ops_at0 (by kernel_rfl) (by kernel_rfl) (by kernel_rfl) (fun _ _ _ h => h) (Or.inl ⟨by rfl, fun V hV => ?_⟩) hHeld ?_
          · go_simp
          simp only [Act.put, List.setIfInBounds_toArray, List.set_cons_zero, List.set_cons_succ]
          refine wpAnyH_take (i := 1) (v := .int .i64 (m1 : Int)) ops_at1 (by kernel_rfl) (by kernel_rfl) (by kernel_rfl) (fun _ _ _ h => h) (Or.inl ⟨by rfl, fun V hV => ?_⟩) hHeld ?_
          · go_simp
          simp only [Act.put, List.setIfInBounds_toArray, List.set_cons_zero, List.set_cons_succ]
          refine wpAnyH_take (i := 2) (v := .bool true) ops_at2 (by kernel_rfl) (by kernel_rfl) (by kernel_rfl) (fun _ _ _ h => h) (Or.inl ⟨by rfl, fun V hV => ?_⟩) hHeld ?_
          · go_simp
          simp only [Act.put, List.setIfInBounds_toArray, List.set_cons_zero, List.set_cons_succ]
          refine wpAnyH_take (i := 3) (v := .bool true) ops_at3 (by kernel_rfl) (by kernel_rfl) (by kernel_rfl) (fun _ _ _ h => h) (Or.inl ⟨by rfl, fun V hV => ?_⟩) hHeld ?_
          · go_simp
          simp only [Act.put, List.setIfInBounds_toArray, List.set_cons_zero, List.set_cons_succ]
          refine wpAnyH_take (i := 4) (v := .int .i64 f1) ops_at4 (by kernel_rfl) (by kernel_rfl) (by kernel_rfl) (fun _ _ _ h => h) (Or.inl ⟨by rfl, fun V hV => ?_⟩) hHeld ?_
          · go_simp
          simp only [Act.put, List.setIfInBounds_toArray, List.set_cons_zero, List.set_cons_succ]
          refine wpAnyH_take (i := 5) (v := .int .i64 f1) ops_at5 (by kernel_rfl) (by kernel_rfl) (by kernel_rfl) (fun _ _ _ h => h) (Or.inl ⟨by rfl, fun V hV => ?_⟩) hHeld ?_
          · go_simp
          simp only [Act.put, List.setIfInBounds_toArray, List.set_cons_zero, List.set_cons_succ]
          refine wpAnyH_take (i := 6) (v := .bool true) ops_at6 (by kernel_rfl) (by kernel_rfl) (by kernel_rfl) (fun _ _ _ h => h) (Or.inl ⟨by rfl, fun V hV => ?_⟩) hHeld ?_
          · go_simp
          simp only [Act.put, List.setIfInBounds_toArray, List.set_cons_zero, List.set_cons_succ]
          refine wpAnyH_take (i := 7) (v := .bool true) ops_at7 (by kernel_rfl) (by kernel_rfl) (by kernel_rfl) (fun _ _ _ h => h) (Or.inl ⟨by rfl, fun V hV => ?_⟩) hHeld ?_
          · go_simp
          simp only [Act.put, List.setIfInBounds_toArray, List.set_cons_zero, List.set_cons_succ]
          refine wpAnyH_take (i := 8) (v := .bool true) ops_at8 (by kernel_rfl) (by kernel_rfl) (by kernel_rfl) (fun _ _ _ h => h) (Or.inl ⟨by rfl, fun V hV => ?_⟩) hHeld ?_
          · go_simp
          simp only [Act.put, List.setIfInBounds_toArray, List.set_cons_zero, List.set_cons_succ]
          refine wpAnyH_take (i := 9) ops_at9 (by kernel_rfl) (by kernel_rfl) (by kernel_rfl) (fun _ _ _ h => h) (yieldsIf_load_mid (by rfl) 32 _ rfl P 0 rfl ((q1).cells (.slice ea en ec)).toList _ (fun V hV => pd_range (q1) _ _ _ (HPof9 V hV).out) HU2.out rfl (by rw [HI2.out]; rfl)) hHeld ?_
          simp only [Act.put, List.setIfInBounds_toArray, List.set_cons_zero, List.set_cons_succ]
          refine wpAnyH_take (i := 11) ops_at11 (by kernel_rfl) (by kernel_rfl) (by kernel_rfl) (fun _ _ _ h => h) (yieldsIf_load_mid (by rfl) 32 _ rfl Q 0 rfl ((q1).cells (.slice fa fn fc)).toList _ (fun V hV => pd_range (q1) _ _ _ (HQof9 V hV).out) HU2.out rfl (by rw [HI2.out]; rfl)) hHeld ?_
          simp only [Act.put, List.setIfInBounds_toArray, List.set_cons_zero, List.set_cons_succ]
          refine wpAnyH_ready (rs := [10]) (by kernel_rfl) (by simp) ?_
          refine AllReadyH.cons ops_at10 (fun K hK => ?_) AllReadyH.nil
          rw [if_pos (by rfl)]
          go_simp
          refine (told_any q1 (.slice ea en ec) _ (HEof9 _ hk0).out).mono ?_
          rintro e V1 ⟨rfl, hb⟩
          have hk1 : Below wa.heap.size wa V1 := hk0.trans (hb.mono hk0.size)
          clear hb
          go_wp2_with fail
          refine hK.out _ _ hk1 (fun hHeld => ?_)
          clear hK K
          refine wpAnyH_ready (rs := [12]) (by kernel_rfl) (by simp) ?_
          refine AllReadyH.cons ops_at12 (fun K hK => ?_) AllReadyH.nil
          rw [if_pos (by rfl)]
          go_simp
          refine (told_any q1 (.slice fa fn fc) _ (HFof9 _ hk1).out).mono ?_
          rintro e V2 ⟨rfl, hb⟩
          have hk2 : Below wa.heap.size wa V2 := hk1.trans (hb.mono hk1.size)
          clear hb
          go_wp2_with fail
          refine hK.out _ _ hk2 (fun hHeld => ?_)
          clear hK K
          refine wpAnyH_ready (rs := [13]) (by kernel_rfl) (by simp) ?_
          refine AllReadyH.cons ops_at13 (fun K hK => ?_) AllReadyH.nil
          rw [if_pos (by rfl)]
          go_simp
          refine (same18_refl q1 _ _ _ (HEof9 _ hk2).out (HFof9 _ hk2).out (by have := HDl.out; omega)).mono ?_
          rintro e V3 ⟨rfl, hb⟩
          have hk3 : Below wa.heap.size wa V3 := hk2.trans (hb.mono hk2.size)
          clear hb
          go_wp2_with fail
          refine hK.out _ _ hk3 (fun hHeld => ?_)
          clear hK K
          refine wpAnyH_take (i := 14) (v := .bool true) ops_at14 (by kernel_rfl) (by kernel_rfl) (by kernel_rfl) (fun _ _ _ h => h) (Or.inl ⟨by rfl, fun V hV => ?_⟩) hHeld ?_
          · go_simp
          simp only [Act.put, List.setIfInBounds_toArray, List.set_cons_zero, List.set_cons_succ]
          refine wpAnyH_take (i := 15) (v := .bool true) ops_at15 (by kernel_rfl) (by kernel_rfl) (by kernel_rfl) (fun _ _ _ h => h) (Or.inl ⟨by rfl, fun V hV => ?_⟩) hHeld ?_
          · go_simp
          simp only [Act.put, List.setIfInBounds_toArray, List.set_cons_zero, List.set_cons_succ]
          refine wpAnyH_done (by kernel_rfl) ?_ _
          go_wp2_with fail
          go_ret
          exact ⟨rfl, HBw1.out.trans ((HKa.out.trans (Keeps.of_below (F := (· = tb)) hk3) (fun _ _ h => h)).below (B := w.heap.size) (by omega) (fun z h1 h2 => by omega))⟩
end Go.Proofs.Ytodmpchnjakchaa
