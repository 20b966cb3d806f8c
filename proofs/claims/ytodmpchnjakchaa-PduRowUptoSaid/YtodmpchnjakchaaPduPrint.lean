/-
  PDUs: the program's Print.
-/
import Derived.Test.YtodmpchnjakchaaPduCut
import Derived.Test.YtodmpchnjakchaaPduRefC
namespace Go.Proofs.Ytodmpchnjakchaa
open Go.RowKit

def PrintPost (p : Pdu.PD) (head data : Bool) (tb : Nat) (w : World) (e : Ending) (w' : World) : Prop :=
  (if Pdu.may p = true then ∃ v, e = .returned (.tuple #[v, .int .i64 0]) ∧ Owns w.heap.size w' v (Pdu.line p head data) else e = .returned (.tuple #[.slice none 0 0, .int .i64 1])) ∧ (∃ d', Table w' tb d') ∧ Keeps (· = tb) w w'

theorem step_div (n sz j : Nat) (h : j + 1 ≤ sz) : ∃ nn, nn = n / 256 ^ (sz - (j + 1)) ∧ (Pdu.be sz n)[j]? = some (nn % 256) ∧ n / 256 ^ (sz - j) = nn / 256 := by
  refine ⟨_, rfl, ?_, ?_⟩
  · have e : sz - 1 - j = sz - (j + 1) := by omega
    rw [be_get sz n j h, e]
  · have e : sz - j = (sz - (j + 1)) + 1 := by omega
    rw [Nat.div_div_eq_div_mul, e, Nat.pow_succ]
theorem fits_lit (v : Int) (sz : Nat) (K : Int) (h : 0 ≤ v) (hk : ((256 ^ sz : Nat) : Int) = K) : (!Pdu.fits v sz) = decide (K ≤ v) := by
  unfold Pdu.fits
  rw [hk, decide_eq_true h, Bool.true_and]
  by_cases hh : v < K
  · rw [decide_eq_true hh, decide_eq_false (by omega)]; rfl
  · rw [decide_eq_false hh, decide_eq_true (by omega)]; rfl
theorem field_sizes (i : Nat) (h : i < 8) : Pdu.fsz i = 1 ∨ Pdu.fsz i = 2 ∨ Pdu.fsz i = 4 ∨ Pdu.fsz i = 6 := by
  have : i = 0 ∨ i = 1 ∨ i = 2 ∨ i = 3 ∨ i = 4 ∨ i = 5 ∨ i = 6 ∨ i = 7 := by omega
  rcases this with rfl | rfl | rfl | rfl | rfl | rfl | rfl | rfl <;> decide

set_option maxRecDepth 100000 in
set_option maxHeartbeats 6400000 in
theorem print_any (p : Pdu.PD) (dv : Value) (head data : Bool) (tb : Nat) (d : Bool) (w : World) (hp : p.Ok) (h : BytesAt w dv p.data) (ht : Table w tb d) (ha : LiesIn dv (· ≠ tb)) :
    Calls Try.prog 10 #[.pointer (some ⟨tb, 0, none⟩), .agg (p.cells dv), .bool head, .bool data] w (PrintPost p head data tb w) := by
  obtain ⟨W, hW⟩ : ∃ W, W = w.alloc (.cells (p.cells dv) 32) := ⟨_, rfl⟩
  have hsW : W.heap.size = w.heap.size + 1 := by rw [hW]; simp
  have HBW := Lib.hid (show Below w.heap.size w W by rw [hW]; exact allocBelow w _)
  have HDW := Lib.hid (h.later HBW.out)
  have HC := Lib.hid (show ∀ j, W.cell? ⟨w.heap.size, j, none⟩ = (p.cells dv)[j]? from fun j => by rw [hW]; exact World.cell?_alloc_new _ _ _ _)
  have HT := Lib.hid (ht.keeps (Keeps.of_below (F := fun _ => False) HBW.out) (fun h => h))
  have htl := block_lt ht.once
  simp only at htl
  obtain ⟨da, dc, hdv, _⟩ := h.form
  have HDV := Lib.hid hdv; clear hdv
  have HA := Lib.hid ha; clear ha
  have HP := Lib.hid hp; clear hp h ht
  have x0 : W.cell? ⟨w.heap.size, 0, none⟩ = some (.int .i64 p.op) := HC.out 0
  have x1 : W.cell? ⟨w.heap.size, 1, none⟩ = some (.bool p.imm) := HC.out 1
  have x26 : W.cell? ⟨w.heap.size, 26, none⟩ = some (.slice da p.data.length dc) := (HC.out 26).trans (by rw [HDV.out]; rfl)
  have NO0 := Lib.hid (show (∃ d', Table W tb d') ∧ Keeps (· = tb) w W from ⟨⟨d, HT.out⟩, Keeps.of_below HBW.out⟩)
  by_cases h1 : 0 ≤ p.op
  case neg =>
    have HM := Lib.hid (show Pdu.may p = false by
      rw [Bool.eq_false_iff]
      intro hm
      simp only [Pdu.may, Bool.and_eq_true, decide_eq_true_eq] at hm
      omega)
    have t1 : decide (p.op < 0) = true := by rw [decide_eq_true_eq]; omega
    go_enter Try.func10, Try.ntmps10
    go_upto_region 1 with fail
    rw [← hW]
    clear hW
    go_wp2_with fail
    go_ret2
    unfold PrintPost
    rw [if_neg (by rw [HM.out]; simp)]
    exact ⟨rfl, NO0.out⟩
  by_cases h2 : p.op ≤ 63
  case neg =>
    have HM := Lib.hid (show Pdu.may p = false by
      rw [Bool.eq_false_iff]
      intro hm
      simp only [Pdu.may, Bool.and_eq_true, decide_eq_true_eq] at hm
      omega)
    have t1 : decide (p.op < 0) = false := by rw [decide_eq_false_iff_not]; omega
    have t2 : decide (64 ≤ p.op) = true := by rw [decide_eq_true_eq]; omega
    go_enter Try.func10, Try.ntmps10
    go_upto_region 1 with fail
    rw [← hW]
    clear hW
    go_wp2_with fail
    go_ret2
    unfold PrintPost
    rw [if_neg (by rw [HM.out]; simp)]
    exact ⟨rfl, NO0.out⟩
  by_cases h3 : p.data.length ≤ 1024
  case neg =>
    have HM := Lib.hid (show Pdu.may p = false by
      rw [Bool.eq_false_iff]
      intro hm
      simp only [Pdu.may, Bool.and_eq_true, decide_eq_true_eq] at hm
      omega)
    have t1 : decide (p.op < 0) = false := by rw [decide_eq_false_iff_not]; omega
    have t2 : decide (64 ≤ p.op) = false := by rw [decide_eq_false_iff_not]; omega
    have t3 : decide (1024 < (p.data.length : Int)) = true := by rw [decide_eq_true_eq]; omega
    go_enter Try.func10, Try.ntmps10
    go_upto_region 1 with fail
    rw [← hW]
    clear hW
    go_wp2_with fail
    go_ret2
    unfold PrintPost
    rw [if_neg (by rw [HM.out]; simp)]
    exact ⟨rfl, NO0.out⟩
  case pos =>
    have t1 : decide (p.op < 0) = false := by rw [decide_eq_false_iff_not]; omega
    have t2 : decide (64 ≤ p.op) = false := by rw [decide_eq_false_iff_not]; omega
    have t3 : decide (1024 < (p.data.length : Int)) = false := by rw [decide_eq_false_iff_not]; omega
    go_enter Try.func10, Try.ntmps10
    go_upto_region 1 with fail
    rw [← hW]
    clear hW
    obtain ⟨W2, hmk, hown0, hb2, hs2⟩ := make1084 W
    obtain ⟨G, hG⟩ : ∃ G, G = W.heap.size := ⟨_, rfl⟩
    rw [← hG] at hmk hown0
    have hGw : w.heap.size < G := by omega
    have hne : G ≠ w.heap.size := by omega
    have hne2 : w.heap.size ≠ G := by omega
    have HB2 := Lib.hid hb2; clear hb2
    have HO2 := Lib.hid (show Owns G W2 (.slice (some ⟨G, 0, none⟩) 48 1084) (Pdu.zeros 48) from hown0); clear hown0
    have HCell := Lib.hid (show ∀ V, Below W.heap.size W V → ∀ j, V.cell? ⟨w.heap.size, j, none⟩ = (p.cells dv)[j]? from fun V hV j => (hV.cell (p := ⟨w.heap.size, j, none⟩) (by simp; omega)).trans (HC.out j))
    have HGW := Lib.hid hG; clear hG
    have NO := Lib.hid (show ∀ V, Below W.heap.size W V → (∃ d', Table V tb d') ∧ Keeps (· = tb) w V from fun V hV => by
      refine ⟨⟨d, HT.out.keeps (Keeps.of_below (F := fun _ => False) hV) (fun h => h)⟩, ?_⟩
      exact (Keeps.of_below (F := (· = tb)) HBW.out).trans (Keeps.of_below (F := (· = tb)) hV) (fun _ _ h => h))
    have hf := (Pdu.first_read p h1 h2).2.2
    go_upto_region 4 with fail
    clear x0 x1 x26 hmk
    have x0 : W2.cell? ⟨w.heap.size, 0, none⟩ = some (.int .i64 p.op) := HCell.out W2 HB2.out 0
    have x1 : W2.cell? ⟨w.heap.size, 1, none⟩ = some (.bool p.imm) := HCell.out W2 HB2.out 1
    have b0 : W2.cell? ⟨G, 0, none⟩ = some (.int .u8 (0 : Int)) := HO2.out.cellNo 0 (by decide)
    have f0 := HO2.out.freeNo 0
    have e0 : p.op % 256 = p.op := by omega
    go_upto_if 41 with fail
    go_cut [10] (fun s10 wx => s10 = .slice (some ⟨G, 0, none⟩) 48 1084 ∧ Owns G wx (.slice (some ⟨G, 0, none⟩) 48 1084) (Pdu.bufs p 0) ∧ Below W.heap.size W wx)
    case first =>
      cases hi : p.imm with
      | true =>
        have ef : ((Pdu.first p : Nat) : Int) = p.op + 64 := by unfold Pdu.first; rw [hi]; simp only [if_true]; omega
        have e1 : bits .or .u8 p.op 64 = ((Pdu.first p : Nat) : Int) := by
          obtain ⟨x, hx⟩ := Int.eq_ofNat_of_zero_le h1
          rw [ef, hx]
          have h := u8_or_nat x 64 (by omega) (by omega)
          have h' : x ||| 64 = x + 64 := by rw [Nat.or_comm, nat_join 6 64 x (by decide) (by omega)]; omega
          rw [h'] at h
          exact h.trans (by omega)
        have eo : p.op = ((p.op.toNat : Nat) : Int) := by omega
        have HS := Lib.hid ((HO2.out.set 0 p.op.toNat).set 0 (Pdu.first p))
        rw [← eo] at HS
        clear eo ef
        go_wp2_with fail
        go_meet
        exact ⟨rfl, HS.out, (HB2.out.setCell (by have := HGW.out; simp; omega) _).setCell (by have := HGW.out; simp; omega) _⟩
      | false =>
        have ef : ((Pdu.first p : Nat) : Int) = p.op := by unfold Pdu.first; rw [hi]; simp only [Bool.false_eq_true, if_false]; omega
        have HS := Lib.hid (HO2.out.set 0 (Pdu.first p))
        rw [ef] at HS
        clear ef
        go_wp2_with fail
        go_meet
        exact ⟨rfl, HS.out, HB2.out.setCell (by have := HGW.out; simp; omega) _⟩
    case rest =>
      obtain ⟨rfl, hown, hbel⟩ := hcut
      have HO := Lib.hid hown; clear hown
      have HB := Lib.hid hbel; clear hbel
      obtain ⟨FB, hFB⟩ : ∃ FB, FB = wc.heap.size := ⟨_, rfl⟩
      have HFl := Lib.hid (fields_any w.heap.size wc)
      rw [← hFB] at HFl
      have hFG : G < FB := by have := (HO.out.from G rfl).2; omega
      have HFB := Lib.hid hFB; clear hFB
      go_wp2_with fail
      refine HFl.out.mono ?_
      rintro e V ⟨rfl, hfc, hb, hsV⟩
      have hb : Below wc.heap.size wc V := by rw [← HFB.out]; exact hb
      have HOV := Lib.hid (HO.out.laterO hb)
      have HBV := Lib.hid (HB.out.trans (hb.mono HB.out.size))
      have HFC := Lib.hid hfc; clear hfc hb HFl
      go_wp2_with fail
      go_loopg [49] 8 (fun g s49 wx => ∃ i : Nat, s49 = .int .i64 i ∧ i + g = 8 ∧ Owns G wx (.slice (some ⟨G, 0, none⟩) 48 1084) (Pdu.bufs p i) ∧ (∀ j, wx.cell? ⟨FB, j, none⟩ = (fieldCells w.heap.size)[j]?) ∧ Below W.heap.size W wx ∧ FB < wx.heap.size ∧ ∀ m, m < i → Pdu.fits (Pdu.val p m) (Pdu.fsz m) = true)
      case atStart => exact ⟨0, rfl, by omega, HOV.out, HFC.out, HBV.out, by have := HFB.out; omega, fun m hm => by omega⟩
      case round =>
        clear HOV HBV HFC
        obtain ⟨i, rfl, hig, hown, hfc, hbel, hFl, hall⟩ := hrel
        have HO := Lib.hid hown; clear hown
        have HB := Lib.hid hbel; clear hbel
        have HFC := Lib.hid hfc; clear hfc
        have HAll := Lib.hid hall; clear hall
        by_cases hi : i < 8
        case neg =>
          obtain rfl : i = 8 := by omega
          have HMay := Lib.hid ((Pdu.may_fields p ⟨h1, h2, h3⟩).2 HAll.out)
          have xd : wr.cell? ⟨w.heap.size, 26, none⟩ = some (.slice da p.data.length dc) := (HCell.out wr HB.out 26).trans (by rw [HDV.out]; rfl)
          have HB8 := Lib.hid (Pdu.bufs_length p 8 (Nat.le_refl _))
          have HH := Lib.hid (Pdu.bufs_hdr p (by omega))
          obtain ⟨xs0, hxs0⟩ : ∃ xs0, xs0 = Pdu.bufs p 8 := ⟨_, rfl⟩
          rw [← hxs0] at HO HB8 HH
          clear hxs0 HFC HAll
          have HSt := Lib.hid (((HO.out.set 5 (p.data.length / 256 ^ 2 % 256)).set 6 (p.data.length / 256 ^ 1 % 256)).set 7 (p.data.length / 256 ^ 0 % 256))
          have e2 : ((p.data.length / 256 ^ 2 % 256 : Nat) : Int) = (p.data.length : Int) / 65536 := by omega
          have e1 : ((p.data.length / 256 ^ 1 % 256 : Nat) : Int) = (p.data.length : Int) / 256 := by omega
          have e0 : ((p.data.length / 256 ^ 0 % 256 : Nat) : Int) = (p.data.length : Int) % 256 := by omega
          rw [e0, e1, e2] at HSt
          clear e0 e1 e2
          go_upto_region 19 with fail
          go_cut [] from 85 to 104 (fun wx => Owns G wx (.slice (some ⟨G, 0, none⟩) 48 1084) (((xs0.set 5 (p.data.length / 256 ^ 2 % 256)).set 6 (p.data.length / 256 ^ 1 % 256)).set 7 (p.data.length / 256 ^ 0 % 256)) ∧ Below W.heap.size W wx)
          case first =>
            have c5 := HO.out.cellNo 5 (by rw [HB8.out]; decide)
            have c6 := HO.out.cellNo 6 (by rw [HB8.out]; decide)
            have c7 := HO.out.cellNo 7 (by rw [HB8.out]; decide)
            have f5 := HO.out.freeNo 5
            have f6 := HO.out.freeNo 6
            have f7 := HO.out.freeNo 7
            generalize xs0.getD 5 0 = o5 at *
            generalize xs0.getD 6 0 = o6 at *
            generalize xs0.getD 7 0 = o7 at *
            go_wp2_with fail
            go_meet
            exact ⟨HSt.out, ((HB.out.setCell (by have := HGW.out; simp; omega) _).setCell (by have := HGW.out; simp; omega) _).setCell (by have := HGW.out; simp; omega) _⟩
          case rest =>
            clear HO HB xd HSt
            obtain ⟨hown, hbel⟩ := hcut
            have HO := Lib.hid hown; clear hown
            have HB := Lib.hid hbel; clear hbel
            have HLen := Lib.hid (show (((xs0.set 5 (p.data.length / 256 ^ 2 % 256)).set 6 (p.data.length / 256 ^ 1 % 256)).set 7 (p.data.length / 256 ^ 0 % 256)).length = 48 by simp only [List.length_set]; exact HB8.out)
            obtain ⟨xs1, hxs1⟩ : ∃ xs1, xs1 = (((xs0.set 5 (p.data.length / 256 ^ 2 % 256)).set 6 (p.data.length / 256 ^ 1 % 256)).set 7 (p.data.length / 256 ^ 0 % 256)) := ⟨_, rfl⟩
            rw [← hxs1] at HO HLen HH
            clear hxs1 HB8
            have htl16 := HP.out.tail
            have HTl := Lib.hid (show ∀ j, j < p.tail.length → wc.drew.cell? ((⟨w.heap.size, 10, none⟩ : Addr).add j) = some (.int .u8 (p.tail.getD j 0 : Nat)) from fun j hj => by
              rw [Go.WideShapes.add_plain]
              exact (HCell.out wc HB.out (10 + j)).trans (cells_tail p dv j (by omega)))
            have HT16 := Lib.hid htl16; clear htl16
            go_upto_region 20 with fail
            go_cut [] from 105 to 109 (fun wx => Owns G wx (.slice (some ⟨G, 0, none⟩) 48 1084) (Pdu.hdr p) ∧ Below W.heap.size W wx)
            case first =>
              go_region_law (refine step_copy_owns rfl (.tmp 106) (.tmp 108) rfl G G 32 48 1084 16 1052 xs1 p.tail ⟨w.heap.size, 10, none⟩ 16 rfl (by rw [HT16.out]; rfl) (show Owns G wc.drew _ _ from HO.out) HTl.out (by rw [HT16.out]; omega) (by rw [HT16.out]; omega) ?_; intro w4 hown hk)
              all_goals
                have HO4 := Lib.hid hown
                have HK4 := Lib.hid hk
                clear hown hk
                go_wp2_with fail
                go_meet
                refine ⟨?_, ?_⟩
                · have h := HO4.out
                  rw [HT16.out, HH.out, List.drop_eq_nil_of_le (by rw [HLen.out]; decide), List.append_nil] at h
                  exact h
                · exact HB.out.drew.trans ((HK4.out.below (B := W.heap.size) (by have := HB.out.size; simp; omega) (fun z h1 h2 => by have := HGW.out; omega)))
            case rest =>
              clear HO HB HTl HH HLen
              obtain ⟨hown, hbel⟩ := hcut
              have HO := Lib.hid hown; clear hown
              have HB := Lib.hid hbel; clear hbel
              have hsz := HB.out.size
              have HTab := Lib.hid (HT.out.keeps (Keeps.of_below (F := fun _ => False) HB.out) (fun h => h))
              go_upto_if 110 with fail
              go_cut [10] (fun s10 wx => ∃ n, s10 = .slice (some ⟨G, 0, none⟩) n 1084 ∧ n = Pdu.off head ∧ Owns G wx (.slice (some ⟨G, 0, none⟩) n 1084) (Pdu.headed p head) ∧ (∃ d', Table wx tb d') ∧ Keeps (· = tb) W wx)
              case first =>
                cases head with
                | false =>
                  go_wp2_with fail
                  go_meet
                  exact ⟨48, rfl, rfl, HO.out, ⟨d, HTab.out⟩, Keeps.of_below HB.out⟩
                | true =>
                  have hhl := Pdu.hdr_length p HT16.out
                  have HS := Lib.hid (summed_room tb d G G 48 1084 (Pdu.hdr p) _ (Pdu.hdr p) wc HTab.out HO.out HO.out.bytes (Pdu.hdr_bytes p HP.out.bytes) (by omega) (HO.out.lies.mono fun z h => by omega) (by omega) (by decide))
                  clear hhl
                  go_wp2_with fail
                  refine HS.out.mono ?_
                  rintro e V ⟨rfl, hown, ht, hk⟩
                  have HO4 := Lib.hid hown
                  have HT4 := Lib.hid ht
                  have HK4 := Lib.hid hk
                  clear hown ht hk HS
                  go_wp2_with fail
                  go_meet
                  exact ⟨52, rfl, rfl, HO4.out, ⟨true, HT4.out⟩, (Keeps.of_below (F := (· = tb)) HB.out).trans HK4.out (fun z h1 h2 => by have := HGW.out; omega)⟩
              case rest =>
                clear HO HB HTab hsz
                obtain ⟨n, rfl, hn, hown, ht, hk⟩ := hcut
                have hn52 : n ≤ 52 := by rw [hn]; unfold Pdu.off; split <;> omega
                have HNL := Lib.hid (show (Pdu.headed p head).length = n from (Pdu.headed_length p head HT16.out).trans hn.symm)
                clear hn
                have HO := Lib.hid hown
                have HTab := Lib.hid ht
                have HK := Lib.hid hk
                clear hown ht hk
                have hG2 : G < wc.heap.size := (HO.out.from G rfl).2
                have HDat : ∀ V, Keeps (· = tb) W V → Hid (BytesAt V dv p.data) := fun V hV => HDW.out.keeps hV HA.out
                have HPC : ∀ V, Keeps (· = tb) W V → Hid (V.cell? ⟨w.heap.size, 26, none⟩ = some (.slice da p.data.length dc)) := fun V hV => (hV.cell (p := ⟨w.heap.size, 26, none⟩) (by simp; omega) (by simp; omega)).trans ((HC.out 26).trans (by rw [HDV.out]; rfl))
                have HD1 := HDat wc HK.out
                rw [HDV.out] at HD1
                have xd := (HPC wc HK.out).out
                go_upto_region 25 with (at_builtin; refine wpList_append_bytes_room rfl (.tmp 117) (.tmp 119) rfl G G n 1084 _ rfl HO.out (.slice da p.data.length dc) p.data rfl HD1.out (by omega) ?_; intro w4 hown hgrow)
                have HK2 := Lib.hid (HK.out.trans (Keeps.of_grown (F := (· = G)) hgrow (fun k hk => by injection hk with hk; exact hk.symm)) (fun z h1 h2 => by have := HGW.out; omega))
                have HTab2 := Lib.hid (show ∃ d', Table w4 tb d' from HTab.out.imp fun d' h => h.keeps (Keeps.of_grown (F := (· = G)) hgrow (fun k hk => by injection hk with hk; exact hk.symm)) (by omega))
                have HO2 := Lib.hid hown
                have hs4 := hgrow.size
                clear hown hgrow HO HTab HK HD1 xd
                have HPad := Lib.hid (show Pdu.padded p.data = p.data ++ Pdu.zeros (Pdu.pad4 p.data.length - p.data.length) from rfl)
                have hpad : p.data.length ≤ Pdu.pad4 p.data.length ∧ Pdu.pad4 p.data.length ≤ 1024 ∧ Pdu.pad4 p.data.length ≤ p.data.length + 3 := by unfold Pdu.pad4; omega
                have hpl : (Pdu.padded p.data).length = Pdu.pad4 p.data.length := Pdu.padded_length p.data
                obtain ⟨q, hq⟩ : ∃ q, q = Pdu.pad4 p.data.length := ⟨_, rfl⟩
                rw [← hq] at hpad hpl HPad
                go_cut [10] from 121 to 130 (fun s10 wx => s10 = .slice (some ⟨G, 0, none⟩) (n + q) 1084 ∧ Owns G wx (.slice (some ⟨G, 0, none⟩) (n + q) 1084) (Pdu.headed p head ++ Pdu.padded p.data) ∧ (∃ d', Table wx tb d') ∧ Keeps (· = tb) W wx)
                case first =>
                  have HQ := Lib.hid hq; clear hq
                  have HPL := Lib.hid hpl; clear hpl
                  have hk0 : Keeps (· = tb) W w4.drew := HK2.out.drew
                  go_region_held3 (fun w' => w'.cell? ⟨w.heap.size, 26, none⟩ = some (.slice da p.data.length dc))
                    (first | exact (HPC _ hk0).out | exact (HPC _ hk1).out)
                    (first
                      | (go_at_call_of 20 (Value.int .i64 (p.data.length : Int)); refine (whole_any p.data.length _ (by omega)).mono ?_; rintro _ V ⟨rfl, rfl⟩; rw [← HQ.out])
                      | (refine wp_append_zeros (.tmp 121) (.tmp 129) rfl G G (n + p.data.length) 1084 (q - p.data.length) (Pdu.headed p head ++ p.data) rfl (by show Value.int _ _ = _; congr 1; exact (IntWalk.i64_in _ (by omega)).trans (by omega)) (show Owns G w4.drew _ _ from HO2.out) (by omega) (by omega) ?_; intro w5 hown hgrow; have hk1 : Keeps (· = tb) W w5 := hk0.trans (Keeps.of_grown (F := (· = G)) hgrow (fun k hk => by injection hk with hk; exact hk.symm)) (fun z h1 h2 => by have := HGW.out; omega); have HT5 := Lib.hid (show ∃ d', Table w5 tb d' from HTab2.out.imp fun d' h => (h.keeps (Keeps.refl (fun _ => False) _).drew (fun h => h)).keeps (Keeps.of_grown (F := (· = G)) hgrow (fun k hk => by injection hk with hk; exact hk.symm)) (by omega)); have HO5 := Lib.hid hown; clear hown hgrow))
                  go_wp2_with fail
                  go_meet
                  have e : n + p.data.length + (q - p.data.length) = n + q := by omega
                  refine ⟨by rw [e], ?_, HT5.out, hk1⟩
                  rw [HPad.out, ← List.append_assoc, ← e]
                  exact HO5.out
                case rest =>
                  obtain ⟨rfl, hown, ht, hk⟩ := hcut
                  have HO := Lib.hid hown
                  have HK := Lib.hid hk
                  have HPL := Lib.hid hpl
                  have HQ := Lib.hid hq
                  obtain ⟨d', hd'⟩ := ht
                  have HTab := Lib.hid hd'
                  have hG3 : G < wc.heap.size := (HO.out.from G rfl).2
                  clear hown hk hpl hq hd' HO2 HTab2 HK2 hs4
                  have xd := (HPC wc HK.out).out
                  by_cases hdd : data = true ∧ 0 < p.data.length
                  · obtain ⟨rfl, hd0⟩ := hdd
                    have td : decide ((0 : Int) < (p.data.length : Int)) = true := by rw [decide_eq_true_eq]; omega
                    have HR := Lib.hid (show Pdu.line p head true = Pdu.headed p head ++ Pdu.padded p.data ++ Pdu.sumS (Pdu.padded p.data) from by unfold Pdu.line; rw [if_pos (by simpa using hd0)])
                    have HS := Lib.hid (summed_room tb d' G G (n + q) 1084 _ (.slice (some ⟨G, n, none⟩) q (1084 - n)) (Pdu.padded p.data) wc HTab.out HO.out (HO.out.bytes.behind HNL.out HPL.out (1084 - n)) (Pdu.padded_bytes HP.out.data) (by rw [HPL.out]; omega) (fun a n c e hn => by injection e with e1 e2 e3; injection e1 with e1; rw [← e1]; simp; omega) (by omega) (by omega))
                    go_wp2_with fail
                    refine HS.out.mono ?_
                    rintro e V ⟨rfl, hown, ht, hk⟩
                    have HO4 := Lib.hid hown
                    have HT4 := Lib.hid ht
                    have HK4 := Lib.hid hk
                    clear hown ht hk HS
                    go_wp2_with fail
                    go_ret2
                    unfold PrintPost
                    rw [if_pos HMay.out]
                    exact ⟨⟨_, rfl, by rw [HR.out]; exact HO4.out.mono (by omega)⟩, ⟨true, HT4.out⟩, (Keeps.of_below (F := (· = tb)) HBW.out).trans (HK.out.trans HK4.out (fun z h1 h2 => by have := HGW.out; omega)) (fun _ _ h => h)⟩
                  · have HR := Lib.hid (show Pdu.line p head data = Pdu.headed p head ++ Pdu.padded p.data from by
                      unfold Pdu.line
                      rw [if_neg (by simpa using hdd), List.append_nil])
                    cases data with
                    | false =>
                      go_wp2_with fail
                      go_ret2
                      unfold PrintPost
                      rw [if_pos HMay.out]
                      exact ⟨⟨_, rfl, by rw [HR.out]; exact HO.out.mono (by omega)⟩, ⟨d', HTab.out⟩, (Keeps.of_below (F := (· = tb)) HBW.out).trans HK.out (fun _ _ h => h)⟩
                    | true =>
                      have hd0 : ¬ 0 < p.data.length := fun h => hdd ⟨rfl, h⟩
                      have td : decide ((0 : Int) < (p.data.length : Int)) = false := by rw [decide_eq_false_iff_not]; omega
                      clear hdd
                      go_wp2_with fail
                      go_ret2
                      unfold PrintPost
                      rw [if_pos HMay.out]
                      exact ⟨⟨_, rfl, by rw [HR.out]; exact HO.out.mono (by omega)⟩, ⟨d', HTab.out⟩, (Keeps.of_below (F := (· = tb)) HBW.out).trans HK.out (fun _ _ h => h)⟩
        case pos =>
          obtain ⟨q0, q1, q2⟩ := fieldCells_get w.heap.size i hi
          have q0 := (HFC.out (i * 3)).trans q0
          have q1 := (HFC.out (i * 3 + 1)).trans q1
          have q2 := (HFC.out (i * 3 + 2)).trans q2
          have xv := (HCell.out wr HB.out (Pdu.foff i)).trans (cells_val p dv i hi)
          have HS := Lib.hid (show Pdu.bufs p (i + 1) = Pdu.part (Pdu.bufs p i) (Pdu.fat i) (Pdu.be (Pdu.fsz i) (Pdu.val p i).toNat) 0 from rfl)
          have hlen := Pdu.bufs_length p i (by omega)
          obtain ⟨s1, s2, s3, s4, s5, s6⟩ := Pdu.field_small i hi
          have hvr := val_range p HP.out i hi
          have hsz := field_sizes i hi
          have hfi := HAll.out
          have hfold : (fieldList.getD i (0, 0, 0)).1 = Pdu.fat i ∧ (fieldList.getD i (0, 0, 0)).2.1 = Pdu.fsz i ∧ (fieldList.getD i (0, 0, 0)).2.2 = Pdu.foff i := ⟨rfl, rfl, rfl⟩
          rw [hfold.1] at q0
          rw [hfold.2.1] at q1
          rw [hfold.2.2] at q2
          have HNext := Lib.hid (show Pdu.fits (Pdu.val p i) (Pdu.fsz i) = true → ∀ m, m < i + 1 → Pdu.fits (Pdu.val p m) (Pdu.fsz m) = true from fun hh m hm => by
            rcases Nat.lt_or_eq_of_le (Nat.lt_succ_iff.1 hm) with h | h
            · exact HAll.out m h
            · rw [h]; exact hh)
          have HBad := Lib.hid (show Pdu.fits (Pdu.val p i) (Pdu.fsz i) = false → Pdu.may p = false from fun hh => by
            rw [Bool.eq_false_iff]
            intro hm
            rw [(Pdu.may_fields p ⟨h1, h2, h3⟩).1 hm i hi] at hh
            cases hh)
          clear hfold hfi
          unfold i64s at hvr
          generalize Pdu.fat i = fa at *
          generalize Pdu.fsz i = sz at *
          generalize Pdu.foff i = fo at *
          generalize Pdu.val p i = v at *
          have hwr := HB.out.size
          obtain ⟨X, hX⟩ : ∃ X, X = wr.alloc (.cells #[.int .i64 (fa : Int), .int .i64 (sz : Int), .pointer (some ⟨w.heap.size, fo, none⟩)] 67) := ⟨_, rfl⟩
          have xv2 : (wr.alloc (.cells #[.int .i64 (fa : Int), .int .i64 (sz : Int), .pointer (some ⟨w.heap.size, fo, none⟩)] 67)).cell? ⟨w.heap.size, fo, none⟩ = some (.int .i64 v) := (World.cell?_alloc_lt _ _ _ (by simp; omega)).trans xv
          have hXs : X.heap.size = wr.heap.size + 1 := by rw [hX]; simp
          have hXB : Below wr.heap.size wr X := by rw [hX]; exact allocBelow wr _
          have y0 : X.cell? ⟨wr.heap.size, 0, none⟩ = some (.int .i64 (fa : Int)) := by rw [hX]; exact World.cell?_alloc_new _ _ _ _
          have y1 : X.cell? ⟨wr.heap.size, 1, none⟩ = some (.int .i64 (sz : Int)) := by rw [hX]; exact World.cell?_alloc_new _ _ _ _
          go_upto_region 11 with fail
          rw [← hX]
          have HXB := Lib.hid hXB
          have HOX := Lib.hid (HO.out.laterO hXB)
          have HBX := Lib.hid (HB.out.trans (hXB.mono hwr))
          have HFX := Lib.hid (show ∀ j, X.cell? ⟨FB, j, none⟩ = (fieldCells w.heap.size)[j]? from fun j => (hXB.cell (p := ⟨FB, j, none⟩) hFl).trans (HFC.out j))
          clear hX hXB xv xv2 q0 q1 q2 HO HB HFC
          go_cut [66] from 50 to 66 (fun s66 wx => s66 = .bool (!Pdu.fits v sz) ∧ X = wx)
          case first =>
            by_cases hv0 : v < 0
            · have tv : decide (v < 0) = true := by rw [decide_eq_true_eq]; exact hv0
              have HM := Lib.hid (show Pdu.fits v sz = false by unfold Pdu.fits; rw [decide_eq_false (by omega), Bool.false_and])
              clear hsz
              go_wp2_with fail
              go_meet
              exact ⟨by rw [HM.out]; rfl, rfl⟩
            · have tv : decide (v < 0) = false := by rw [decide_eq_false_iff_not]; exact hv0
              rcases hsz with rfl | rfl | rfl | rfl
              · have HM := Lib.hid (fits_lit v 1 256 (by omega) rfl)
                go_wp2_with fail
                go_meet
                exact ⟨by rw [HM.out], rfl⟩
              · have HM := Lib.hid (fits_lit v 2 65536 (by omega) rfl)
                go_wp2_with fail
                go_meet
                exact ⟨by rw [HM.out], rfl⟩
              · have HM := Lib.hid (fits_lit v 4 4294967296 (by omega) rfl)
                go_wp2_with fail
                go_meet
                exact ⟨by rw [HM.out], rfl⟩
              · have HM := Lib.hid (fits_lit v 6 281474976710656 (by omega) rfl)
                go_wp2_with fail
                go_meet
                exact ⟨by rw [HM.out], rfl⟩
          case rest =>
            obtain ⟨rfl, rfl⟩ := hcut
            cases hft : Pdu.fits v sz with
            | false =>
              have HM := Lib.hid (HBad.out hft)
              have ef : (!false) = true := rfl
              rw [ef]
              clear hft ef
              go_wp2_with fail
              go_ret2
              unfold PrintPost
              rw [if_neg (by rw [HM.out]; simp)]
              exact ⟨rfl, NO.out _ HBX.out⟩
            | true =>
              have HN1 := Lib.hid (HNext.out hft)
              have hv0 : 0 ≤ v := by
                rcases Int.lt_or_le v 0 with h | h
                · have : Pdu.fits v sz = false := by unfold Pdu.fits; rw [decide_eq_false (by omega), Bool.false_and]
                  rw [this] at hft; cases hft
                · exact h
              obtain ⟨n, rfl⟩ := Int.eq_ofNat_of_zero_le hv0
              have ef : (!true) = false := rfl
              rw [ef]
              clear HBad HNext hft ef hv0 hsz
              obtain ⟨gk1, hgk1⟩ : ∃ x, x = gk := ⟨_, rfl⟩
              have hbl := Pdu.be_length sz n
              have HPA := Lib.hid (Pdu.part_all (Pdu.bufs p i) fa (Pdu.be sz n))
              rw [hbl] at HPA
              have hGF : G < wr.heap.size := by omega
              have HY0 : ∀ V, Keeps (· = G) X V → Hid (V.cell? ⟨wr.heap.size, 0, none⟩ = some (.int .i64 (fa : Int))) := fun V hV => (hV.cell (p := ⟨wr.heap.size, 0, none⟩) (by simp; omega) (by simp; omega)).trans y0
              go_upto_region 13 with fail
              go_wp2_with fail
              go_loopg [13, 14] sz (fun g s13 s14 wx => g ≤ sz ∧ s13 = .int .i64 ((n / 256 ^ (sz - g) : Nat) : Int) ∧ s14 = .int .i64 ((g : Int) - 1) ∧ Owns G wx (.slice (some ⟨G, 0, none⟩) 48 1084) (Pdu.part (Pdu.bufs p i) fa (Pdu.be sz n) g) ∧ Keeps (· = G) X wx)
              case atStart => exact ⟨Nat.le_refl _, by simp, by go_num, by rw [HPA.out]; exact HOX.out, Keeps.refl _ _⟩
              case round =>
                obtain ⟨hg, rfl, rfl, hown, hk⟩ := hrel
                have HOr := Lib.hid hown; clear hown
                have HKr := Lib.hid hk; clear hk
                by_cases h0 : gk = 0
                · subst h0
                  have hsr := HKr.out.size
                  go_wp2_with fail
                  go_roundg (gk1 - 1)
                  case measure => omega
                  case rel =>
                    refine ⟨i + 1, by go_num, by omega, ?_, fun j => ?_, ?_, by omega, HN1.out⟩
                    · rw [HS.out, Int.toNat_natCast]; exact HOr.out
                    · exact (HKr.out.cell (p := ⟨FB, j, none⟩) (by simp; omega) (by simp; omega)).trans (HFX.out j)
                    · exact HBX.out.trans (HKr.out.below (B := W.heap.size) (by omega) (fun z h1 h2 => by have := HGW.out; omega))
                · obtain ⟨j, rfl⟩ : ∃ j, gk = j + 1 := ⟨gk - 1, by omega⟩
                  clear h0
                  have e1 : ((j + 1 : Nat) : Int) - 1 = (j : Int) := by omega
                  rw [e1]
                  clear e1
                  obtain ⟨nn, hnn, hb1, hn2⟩ := step_div n sz j hg
                  rw [← hnn]
                  have HB1 := Lib.hid hb1
                  have HNN := Lib.hid hn2
                  clear hnn hb1 hn2
                  have hpln : (Pdu.part (Pdu.bufs p i) fa (Pdu.be sz n) (j + 1)).length = 48 := by rw [Pdu.part_length _ _ _ _ (by omega) (by omega)]; exact hlen
                  have z0 := (HY0 _ HKr.out).out
                  have g1 := HOr.out.cellNo (fa + j) (by omega)
                  have g2 := HOr.out.freeNo (fa + j)
                  have HSt := Lib.hid (Pdu.part_set (Pdu.bufs p i) fa (Pdu.be sz n) j (nn % 256) (by omega) HB1.out)
                  clear hpln
                  generalize (Pdu.part (Pdu.bufs p i) fa (Pdu.be sz n) (j + 1)).getD (fa + j) 0 = old at *
                  go_wp2_with fail
                  go_roundg j
                  case measure => omega
                  case rel =>
                    refine ⟨by omega, by rw [HNN.out]; go_num, by go_num, ?_, ?_⟩
                    · rw [← HSt.out]
                      exact HOr.out.set (fa + j) (nn % 256)
                    · exact HKr.out.setCell (fun _ => rfl) _
end Go.Proofs.Ytodmpchnjakchaa
