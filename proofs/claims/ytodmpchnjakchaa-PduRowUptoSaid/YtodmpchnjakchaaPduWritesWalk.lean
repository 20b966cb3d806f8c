/-
  PduWrites: the walk.
-/
import Derived.Test.YtodmpchnjakchaaPduKnown
namespace Go.Proofs.Ytodmpchnjakchaa
open Go.RowKit

theorem line_short (p : Pdu.PD) (head data : Bool) (ht : p.tail.length = 16) (hd : p.data.length ≤ 1024) : (Pdu.line p head data).length ≤ 1200 := by
  have h1 := Pdu.headed_length p head ht
  have h2 := Pdu.padded_length p.data
  have h3 : Pdu.off head ≤ 52 := by unfold Pdu.off; split <;> omega
  have h4 : Pdu.pad4 p.data.length ≤ p.data.length + 3 := by unfold Pdu.pad4; omega
  unfold Pdu.line
  rw [List.length_append, List.length_append]
  split
  · rw [Pdu.sumS_length]; omega
  · simp; omega

set_option maxRecDepth 100000 in
set_option maxHeartbeats 6400000 in
theorem writes_any (p : Pdu.PD) (dv : Value) (head data : Bool) (bv : Value) (lb : List Nat) (w : World) (hp : p.Ok) (hd : BytesAt w dv p.data) (hl : p.data.length ≤ 140737488355328) (hb : BytesAt w bv lb) (hB : Crc.Bytes lb) (hbl : lb.length ≤ 140737488351232) :
    Calls Try.prog 3 #[.agg (p.cells dv), .bool head, .bool data, bv] w fun e w' => e = .returned (.bool true) ∧ Below w.heap.size w w' := by
  obtain ⟨da, dc, rfl, _⟩ := hd.form
  obtain ⟨ba, bc, rfl, _⟩ := hb.form
  have hdl := hd.lies
  have hblies := hb.lies
  obtain ⟨dl, hdle⟩ : ∃ dl, dl = p.data.length := ⟨_, rfl⟩
  obtain ⟨bl, hble⟩ : ∃ bl, bl = lb.length := ⟨_, rfl⟩
  rw [← hdle] at hd hdl hl ⊢
  rw [← hble] at hb hblies hbl ⊢
  have HDLe := Lib.hid hdle
  have HBLe := Lib.hid hble
  clear hdle hble
  obtain ⟨PB, hPB⟩ : ∃ PB, PB = w.heap.size := ⟨_, rfl⟩
  obtain ⟨W, hW⟩ : ∃ W, W = w.alloc (.cells (p.cells (.slice da dl dc)) 25) := ⟨_, rfl⟩
  have HBW := Lib.hid (show Below w.heap.size w W by rw [hW]; exact allocBelow w _)
  have hsW : W.heap.size = w.heap.size + 1 := by rw [hW]; simp
  have HC := Lib.hid (show ∀ j, W.cell? ⟨PB, j, none⟩ = (p.cells (.slice da dl dc))[j]? from fun j => by rw [hPB, hW]; exact World.cell?_alloc_new _ _ _ _)
  have HD := Lib.hid (hd.later HBW.out)
  have HBb := Lib.hid (hb.later HBW.out)
  have HI2 := Lib.hid (show (Try.prog.info? 32).map (·.size) = some 27 by kernel_rfl)
  have HU2 := Lib.hid (Try.underlying32)
  have HIR := Lib.hid (show (Try.prog.info? 25).map (·.size) = some 27 by kernel_rfl)
  have HUR := Lib.hid (Try.underlying25)
  clear hd hb
  go_enter Try.func3, Try.ntmps3
  go_upto_region 1 with fail
  rw [← hW]
  clear hW
  rw [← hPB]
  go_wp2_with fail
  refine (new_any W).mono ?_
  rintro e w1 ⟨rfl, ht1, hb1, hs1⟩
  obtain ⟨tb, htb⟩ : ∃ tb, tb = W.heap.size := ⟨_, rfl⟩
  rw [← htb] at ht1 ⊢
  have hsz : w.heap.size ≤ PB ∧ PB ≤ w.heap.size ∧ PB + 1 ≤ tb ∧ tb ≤ PB + 1 ∧ tb + 1 ≤ w1.heap.size := by omega
  have HB1 := Lib.hid (show Below (PB + 1) W w1 from hb1.mono (by omega))
  have HBw1 := Lib.hid (show Below w.heap.size w w1 from HBW.out.trans (hb1.mono (by omega)))
  have HPof : ∀ V, Keeps (· = tb) w1 V → Hid (∀ j, V.cell? ⟨PB, j, none⟩ = (p.cells (.slice da dl dc))[j]?) := fun V hV j => (hV.cell (p := ⟨PB, j, none⟩) (by simp; omega) (by simp; omega)).trans ((HB1.out.cell (p := ⟨PB, j, none⟩) (by simp)).trans (HC.out j))
  have hdt : LiesIn (.slice da dl dc) (· ≠ tb) := hdl.mono fun k hk => by omega
  have HDof : ∀ V, Keeps (· = tb) w1 V → Hid (BytesAt V (.slice da dl dc) p.data) := fun V hV => (HD.out.below HB1.out (hdl.mono fun k hk => by omega)).keeps hV hdt
  have HBof : ∀ V, Keeps (· = tb) w1 V → Hid (BytesAt V (.slice ba bl bc) lb) := fun V hV => (HBb.out.below HB1.out (hblies.mono fun k hk => by omega)).keeps hV (hblies.mono fun k hk => by omega)
  clear hPB hsW hs1 htb hb1 HBW
  have HT1 := Lib.hid ht1; clear ht1
  go_wp2_with fail
  refine (known_any tb false w1 HT1.out).mono ?_
  rintro e w2 ⟨rfl, ⟨d2, ht2⟩, hk2⟩
  have HT2 := Lib.hid ht2
  have HK2 := Lib.hid hk2
  clear ht2 hk2 HT1
  have HP2 := HPof w2 HK2.out
  go_wp2_with (refine wpList_load_pd rfl 25 (.tmp 4) rfl PB rfl p (.slice da dl dc) _ HUR.out rfl HIR.out HP2.out ?_)
  refine (given_any p _ w2 (HDof w2 HK2.out).out).mono ?_
  rintro e w3 ⟨rfl, hb3⟩
  have HK3 := Lib.hid (HK2.out.trans (Keeps.of_below (F := (· = tb)) hb3) (fun _ _ h => h))
  have HT3 := Lib.hid (HT2.out.keeps (Keeps.of_below (F := fun _ => False) hb3) (fun h => h))
  clear hb3 HT2 HP2
  have HPr := Lib.hid (print_any p _ head data tb d2 w3 hp (HDof w3 HK3.out).out HT3.out hdt)
  go_wp2_with fail
  refine HPr.out.mono ?_
  rintro e w4 hpost
  clear HPr
  unfold PrintPost at hpost
  cases hm : Pdu.may p with
  | false =>
    rw [hm, if_neg (by simp)] at hpost
    obtain ⟨rfl, _, hk4⟩ := hpost
    have HM := Lib.hid hm
    have HK4 := Lib.hid (HK3.out.trans hk4 (fun _ _ h => h))
    clear hm hk4
    have HP4 := HPof w4 HK4.out
    go_wp2_with (refine wpList_load_pd rfl 25 (.tmp 4) rfl PB rfl p (.slice da dl dc) _ HUR.out rfl HIR.out HP4.out ?_)
    refine (print18_no p _ head data w4 hp (HDof w4 HK4.out).out HM.out).mono ?_
    rintro e w5 ⟨rfl, hb5⟩
    have HK5 := Lib.hid (HK4.out.trans (Keeps.of_below (F := (· = tb)) hb5) (fun _ _ h => h))
    clear hb5 HP4
    go_wp2_with fail
    refine (same_any (.slice none 0 0) (.slice none 0 0) [] [] w5 (.inl ⟨rfl, none, 0, rfl, fun _ => rfl⟩) (.inl ⟨rfl, none, 0, rfl, fun _ => rfl⟩) (by simp)).mono ?_
    rintro e w6 ⟨rfl, hb6⟩
    have HK6 := Lib.hid (HK5.out.trans (Keeps.of_below (F := (· = tb)) hb6) (fun _ _ h => h))
    clear hb6
    have et : decide (([] : List Nat) = []) = true := by decide
    go_wp2_with fail
    go_ret
    exact ⟨rfl, HBw1.out.trans (HK6.out.below (B := w.heap.size) (by omega) (fun z h1 h2 => by omega))⟩
  | true =>
    rw [hm, if_pos rfl] at hpost
    obtain ⟨⟨v, rfl, ho4⟩, ⟨d4, ht4⟩, hk4⟩ := hpost
    obtain ⟨va, vc, rfl, _⟩ := ho4.bytes.form
    have HM := Lib.hid hm
    have HK4 := Lib.hid (HK3.out.trans hk4 (fun _ _ h => h))
    have HT4 := Lib.hid ht4
    have hs4 := hk4.size
    have hs3 := HK3.out.size
    obtain ⟨L, hL⟩ : ∃ L, L = Pdu.line p head data := ⟨_, rfl⟩
    rw [← hL] at ho4 ⊢
    have HL := Lib.hid hL
    have hLb := Lib.hid (show Crc.Bytes L from by rw [hL]; exact Pdu.line_bytes p head data hp.bytes hp.data)
    have hLl : L.length ≤ 1200 := by
      have h3 : p.data.length ≤ 1024 := by simp only [Pdu.may, Bool.and_eq_true, decide_eq_true_eq] at hm; exact hm.2
      rw [hL]
      exact line_short p head data hp.tail h3
    have HLL := Lib.hid hLl
    have HO4 := Lib.hid ho4
    clear hm hk4 ht4 ho4 hL
    have HP4 := HPof w4 HK4.out
    go_wp2_with (refine wpList_load_pd rfl 25 (.tmp 4) rfl PB rfl p (.slice da dl dc) _ HUR.out rfl HIR.out HP4.out ?_)
    refine (print18_yes p _ head data w4 hp (HDof w4 HK4.out).out HM.out).mono ?_
    rintro e w5 ⟨v5, rfl, ho5, hb5⟩
    rw [← HL.out] at ho5
    obtain ⟨va5, vc5, rfl, _⟩ := ho5.bytes.form
    have HO5 := Lib.hid ho5
    have HO45 := Lib.hid (HO4.out.laterO hb5)
    have HT5 := Lib.hid (HT4.out.keeps (Keeps.of_below (F := fun _ => False) hb5) (fun h => h))
    have HK5 := Lib.hid (HK4.out.trans (Keeps.of_below (F := (· = tb)) hb5) (fun _ _ h => h))
    have hs455 := hb5.size
    clear hb5 HP4 ho5 HO4 HT4
    have HSm := Lib.hid (same_any (.slice va L.length vc) (.slice va5 L.length vc5) L L w5 HO45.out.bytes HO5.out.bytes (by omega))
    have HOa := Lib.hid (show ∀ V, Below w5.heap.size w5 V → Owns w3.heap.size V (.slice va L.length vc) L from fun V hV => HO45.out.laterO hV)
    obtain ⟨ll, hll⟩ : ∃ ll, ll = L.length := ⟨_, rfl⟩
    rw [← hll]
    rw [← hll] at HSm HOa hLl
    have HLe := Lib.hid hll
    clear hll HO45 HO5
    go_wp2_with fail
    refine HSm.out.mono ?_
    rintro e w6 ⟨rfl, hb6⟩
    have HO6 := Lib.hid (HOa.out w6 hb6)
    have HT6 := Lib.hid (HT5.out.keeps (Keeps.of_below (F := fun _ => False) hb6) (fun h => h))
    have HK6 := Lib.hid (HK5.out.trans (Keeps.of_below (F := (· = tb)) hb6) (fun _ _ h => h))
    have hs6 := HK6.out.size
    have hs5 := HK5.out.size
    have hb66 := hb6.size
    have hs45 := HK4.out.size
    clear hb6 HSm HOa HT5
    have et : decide (L = L) = true := by simp
    have HB6 := HBof w6 HK6.out
    have hOf := HO6.out.from
    have HOf := Lib.hid hOf; clear hOf
    have hbase : w3.heap.size ≤ w6.heap.size := by omega
    go_upto_region 12 with (at_builtin; refine wpList_append_bytes rfl (.tmp 51) (.tmp 52) rfl w3.heap.size (.slice va ll vc) L rfl HO6.out (.slice ba bl bc) lb rfl HB6.out (by have := HBLe.out; have := HLL.out; omega) hbase ?_; intro v7 w7 hown hgrow)
    have HG7 : Keeps (fun z => (Value.slice va ll vc).ownBlock = some z) w6 w7 := Keeps.of_grown hgrow (fun k hk => hk)
    have HK7 := Lib.hid (show Keeps (· = tb) w1 w7 from HK6.out.trans HG7 (fun z h1 h2 => by have := HOf.out z h2; omega))
    have HT7 := Lib.hid (HT6.out.keeps HG7 (fun h => by have := HOf.out tb h; omega))
    obtain ⟨va7, vc7, rfl, _⟩ := hown.bytes.form
    have hroom := hown.room
    have HO7 := Lib.hid hown
    have hs7 := hgrow.size
    clear hown hgrow HG7 HT6 HO6 HB6 et
    have hal : (L ++ lb).length ≤ 140737488352432 := by rw [List.length_append]; have := HBLe.out; have := HLL.out; omega
    have HPs := Lib.hid (show Pdu.parse (L ++ lb) head data 1024 = (p, ll, 0) from by rw [HLe.out, HL.out]; exact Pdu.parse_line p head data lb hp.tail HM.out)
    have HPa := Lib.hid (parse_any _ va7 (L ++ lb).length vc7 (L ++ lb) head data 1024 tb d4 w7 rfl HO7.out.bytes (Pdu.bytes_append hLb.out hB) hroom (by omega) ⟨by omega, by omega⟩ HT7.out (HO7.out.lies.mono fun z h => by omega))
    obtain ⟨al, hale⟩ : ∃ al, al = (L ++ lb).length := ⟨_, rfl⟩
    rw [← hale] at HPa HO7 hroom hal ⊢
    clear hale
    go_wp2_with fail
    refine HPa.out.mono ?_
    rintro e w8 hpost
    unfold ParsePost at hpost
    rw [HPs.out] at hpost
    obtain ⟨ev, rfl, ho8, ⟨d8, ht8⟩, hk8⟩ := hpost
    obtain ⟨ea, ec, rfl, _⟩ := ho8.bytes.form
    obtain ⟨en, hen⟩ : ∃ en, en = (p, ll, (0 : Int)).1.data.length := ⟨_, rfl⟩
    rw [← hen] at ho8 ⊢
    have HO8 := Lib.hid ho8
    have HK8 := Lib.hid (HK7.out.trans hk8 (fun _ _ h => h))
    have hs8 := hk8.size
    clear ho8 hk8 ht8 hen HPa
    obtain ⟨Q, hQ⟩ : ∃ x, x = w8.heap.size := ⟨_, rfl⟩
    go_upto_region 13 with (refine wpList_store_pd rfl 32 (.tmp 15) (.tmp 60) rfl w8.heap.size Pdu.pdZero (p) (.slice none 0 0) (.slice ea en ec) rfl rfl (fun j => show (w8.alloc (.cells #[.int .i64 0, .bool false, .int .i64 0, .int .i64 0, .int .i64 0, .int .i64 0, .int .i64 0, .int .i64 0, .int .i64 0, .int .i64 0, .int .u8 0, .int .u8 0, .int .u8 0, .int .u8 0, .int .u8 0, .int .u8 0, .int .u8 0, .int .u8 0, .int .u8 0, .int .u8 0, .int .u8 0, .int .u8 0, .int .u8 0, .int .u8 0, .int .u8 0, .int .u8 0, .slice none 0 0] 32)).cell? _ = _ from World.cell?_alloc_new _ _ _ _) (fun j => frozen_new _ _ _ _) rfl HI2.out ?_; intro w9 hc hf hk hs; have HCQ := Lib.hid hc; have HFQ := Lib.hid hf; have HKQ := Lib.hid ((((Keeps.refl (fun z => z = w8.heap.size) w8).alloc _).trans hk (fun _ _ h => h)).below (B := w8.heap.size) (Nat.le_refl _) (fun z h1 h2 => by omega)); have hsQ : w9.heap.size = w8.heap.size + 1 := (by rw [hs]; simp); clear hc hf hk hs)
    rw [← hQ]
    rw [← hQ] at HCQ HFQ hsQ
    have hleQ : Q ≤ w8.heap.size ∧ w8.heap.size ≤ Q ∧ Q + 1 ≤ w9.heap.size ∧ w9.heap.size ≤ Q + 1 := by omega
    clear hQ hsQ
    have HK9 := Lib.hid (show Keeps (· = tb) w1 w9 from HK8.out.trans (Keeps.of_below (F := (· = tb)) HKQ.out) (fun _ _ h => h))
    have HPof9 : ∀ V, Below w9.heap.size w9 V → Hid (∀ j, V.cell? ⟨PB, j, none⟩ = (p.cells (.slice da dl dc))[j]?) := fun V hV => HPof V (HK9.out.trans (Keeps.of_below (F := (· = tb)) hV) (fun _ _ h => h))
    have HDof9 : ∀ V, Below w9.heap.size w9 V → Hid (BytesAt V (.slice da dl dc) p.data) := fun V hV => HDof V (HK9.out.trans (Keeps.of_below (F := (· = tb)) hV) (fun _ _ h => h))
    have HQof9 : ∀ V, Below w9.heap.size w9 V → Hid (∀ j, V.cell? ⟨Q, j, none⟩ = (p.cells (.slice ea en ec))[j]?) := fun V hV j => (hV.cell (p := ⟨Q, j, none⟩) (by simp; omega)).trans (HCQ.out j)
    have HEof9 : ∀ V, Below w9.heap.size w9 V → Hid (BytesAt V (.slice ea en ec) p.data) := fun V hV => (HO8.out.bytes.below HKQ.out (HO8.out.lies.mono fun z h => h.2)).below hV (HO8.out.lies.mono fun z h => by have := HKQ.out.size; omega)
    clear HPof HDof HBof HCQ HFQ HO8 HO7 HC HD HBb
    have kl : ((ll : Int) == (ll : Int)) = true := by simp
    have hk0 : Below w9.heap.size w9 w9.drew := (Below.refl _ _).drew
    refine wp_region_held_drew (S := fun w' => Below w9.heap.size w9 w') (by kernel_rfl) hk0 (fun hHeld => ?_)
    refine wpAnyH_take (i := 0) (v := .int .i64 0) ops_at0 (by kernel_rfl) (by kernel_rfl) (by kernel_rfl) (fun _ _ _ h => h) (Or.inl ⟨by rfl, fun V hV => ?_⟩) hHeld ?_
    · go_simp
    simp only [Act.put, List.setIfInBounds_toArray, List.set_cons_zero, List.set_cons_succ]
    refine wpAnyH_take (i := 1) (v := .bool true) ops_at1 (by kernel_rfl) (by kernel_rfl) (by kernel_rfl) (fun _ _ _ h => h) (Or.inl ⟨by rfl, fun V hV => ?_⟩) hHeld ?_
    · go_simp
    simp only [Act.put, List.setIfInBounds_toArray, List.set_cons_zero, List.set_cons_succ]
    refine wpAnyH_take (i := 2) (v := .bool true) ops_at2 (by kernel_rfl) (by kernel_rfl) (by kernel_rfl) (fun _ _ _ h => h) (Or.inl ⟨by rfl, fun V hV => ?_⟩) hHeld ?_
    · go_simp
    simp only [Act.put, List.setIfInBounds_toArray, List.set_cons_zero, List.set_cons_succ]
    refine wpAnyH_take (i := 3) (v := .int .i64 (ll : Int)) ops_at3 (by kernel_rfl) (by kernel_rfl) (by kernel_rfl) (fun _ _ _ h => h) (Or.inl ⟨by rfl, fun V hV => ?_⟩) hHeld ?_
    · go_simp
    simp only [Act.put, List.setIfInBounds_toArray, List.set_cons_zero, List.set_cons_succ]
    refine wpAnyH_take (i := 4) (v := .int .i64 (ll : Int)) ops_at4 (by kernel_rfl) (by kernel_rfl) (by kernel_rfl) (fun _ _ _ h => h) (Or.inl ⟨by rfl, fun V hV => ?_⟩) hHeld ?_
    · go_simp
    simp only [Act.put, List.setIfInBounds_toArray, List.set_cons_zero, List.set_cons_succ]
    refine wpAnyH_take (i := 5) (v := .bool true) ops_at5 (by kernel_rfl) (by kernel_rfl) (by kernel_rfl) (fun _ _ _ h => h) (Or.inl ⟨by rfl, fun V hV => ?_⟩) hHeld ?_
    · go_simp
    simp only [Act.put, List.setIfInBounds_toArray, List.set_cons_zero, List.set_cons_succ]
    refine wpAnyH_take (i := 6) (v := .bool true) ops_at6 (by kernel_rfl) (by kernel_rfl) (by kernel_rfl) (fun _ _ _ h => h) (Or.inl ⟨by rfl, fun V hV => ?_⟩) hHeld ?_
    · go_simp
    simp only [Act.put, List.setIfInBounds_toArray, List.set_cons_zero, List.set_cons_succ]
    refine wpAnyH_take (i := 7) (v := .bool true) ops_at7 (by kernel_rfl) (by kernel_rfl) (by kernel_rfl) (fun _ _ _ h => h) (Or.inl ⟨by rfl, fun V hV => ?_⟩) hHeld ?_
    · go_simp
    simp only [Act.put, List.setIfInBounds_toArray, List.set_cons_zero, List.set_cons_succ]
    refine wpAnyH_take (i := 8) ops_at8 (by kernel_rfl) (by kernel_rfl) (by kernel_rfl) (fun _ _ _ h => h) (yieldsIf_load_mid (by rfl) 25 _ rfl PB 0 rfl ((p).cells (.slice da dl dc)).toList _ (fun V hV => pd_range (p) _ _ _ (HPof9 V hV).out) HUR.out rfl (by rw [HIR.out]; rfl)) hHeld ?_
    simp only [Act.put, List.setIfInBounds_toArray, List.set_cons_zero, List.set_cons_succ]
    refine wpAnyH_take (i := 9) ops_at9 (by kernel_rfl) (by kernel_rfl) (by kernel_rfl) (fun _ _ _ h => h) (yieldsIf_load_mid (by rfl) 32 _ rfl Q 0 rfl ((p).cells (.slice ea en ec)).toList _ (fun V hV => pd_range (p) _ _ _ (HQof9 V hV).out) HU2.out rfl (by rw [HI2.out]; rfl)) hHeld ?_
    simp only [Act.put, List.setIfInBounds_toArray, List.set_cons_zero, List.set_cons_succ]
    refine wpAnyH_ready (rs := [10]) (by kernel_rfl) (by simp) ?_
    refine AllReadyH.cons ops_at10 (fun K hK => ?_) AllReadyH.nil
    rw [if_pos (by rfl)]
    go_simp
    refine (told_any p (.slice ea en ec) _ (HEof9 _ hk0).out).mono ?_
    rintro e V1 ⟨rfl, hb⟩
    have hk1 : Below w9.heap.size w9 V1 := hk0.trans (hb.mono hk0.size)
    clear hb
    go_wp2_with fail
    refine hK.out _ _ hk1 (fun hHeld => ?_)
    clear hK K
    refine wpAnyH_ready (rs := [11]) (by kernel_rfl) (by simp) ?_
    refine AllReadyH.cons ops_at11 (fun K hK => ?_) AllReadyH.nil
    rw [if_pos (by rfl)]
    go_simp
    refine (same18_refl p _ _ _ (HDof9 _ hk1).out (HEof9 _ hk1).out (by have := HDLe.out; omega)).mono ?_
    rintro e V2 ⟨rfl, hb⟩
    have hk2 : Below w9.heap.size w9 V2 := hk1.trans (hb.mono hk1.size)
    clear hb
    go_wp2_with fail
    refine hK.out _ _ hk2 (fun hHeld => ?_)
    clear hK K
    refine wpAnyH_take (i := 12) (v := .bool true) ops_at12 (by kernel_rfl) (by kernel_rfl) (by kernel_rfl) (fun _ _ _ h => h) (Or.inl ⟨by rfl, fun V hV => ?_⟩) hHeld ?_
    · go_simp
    simp only [Act.put, List.setIfInBounds_toArray, List.set_cons_zero, List.set_cons_succ]
    refine wpAnyH_take (i := 13) (v := .bool true) ops_at13 (by kernel_rfl) (by kernel_rfl) (by kernel_rfl) (fun _ _ _ h => h) (Or.inl ⟨by rfl, fun V hV => ?_⟩) hHeld ?_
    · go_simp
    simp only [Act.put, List.setIfInBounds_toArray, List.set_cons_zero, List.set_cons_succ]
    refine wpAnyH_done (by kernel_rfl) ?_ _
    go_wp2_with fail
    go_ret
    exact ⟨rfl, HBw1.out.trans ((HK9.out.trans (Keeps.of_below (F := (· = tb)) hk2) (fun _ _ h => h)).below (B := w.heap.size) (by omega) (fun z h1 h2 => by omega))⟩
end Go.Proofs.Ytodmpchnjakchaa
