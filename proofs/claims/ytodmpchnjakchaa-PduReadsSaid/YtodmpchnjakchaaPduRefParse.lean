/-
  PDUs: the document's Parse.
-/
import Derived.Test.YtodmpchnjakchaaPduRefRead
import Derived.Deep.DeepCutAuto
import Derived.Deep.CutRange
import Derived.Deep.QuietTactic
import Derived.BigQuiet
import Derived.Deep.RegionLaw
namespace Go.Proofs.Ytodmpchnjakchaa
open Go.RowKit

def RefPost (l : List Nat) (head data : Bool) (most : Int) (w : World) (e : Ending) (w' : World) : Prop :=
  ∃ dv, e = .returned (.tuple #[.agg ((Pdu.parse l head data most).1.cells dv), .int .i64 ((Pdu.parse l head data most).2.1 : Nat), .int .i64 (Pdu.parse l head data most).2.2]) ∧
    Owns w.heap.size w' dv (Pdu.parse l head data most).1.data ∧ Below w.heap.size w w'

set_option maxRecDepth 100000 in
set_option maxHeartbeats 6400000 in
theorem parse18_any (bv : Value) (bo : Option Addr) (n c : Nat) (l : List Nat) (head data : Bool) (most : Int) (w : World) (hbv : bv = .slice bo n c) (h : BytesAt w (.slice bo n c) l) (hB : Crc.Bytes l) (hcap : n ≤ c) (hl : n ≤ 140737488355328) (hm : i64s most) :
    Calls Try.prog 17 #[bv, .bool head, .bool data, .int .i64 most] w (RefPost l head data most w) := by
  subst hbv
  have hn := h.length
  obtain ⟨W, hW⟩ : ∃ W, W = w.alloc (.cells #[.int .i64 0, .bool false, .int .i64 0, .int .i64 0, .int .i64 0, .int .i64 0, .int .i64 0, .int .i64 0, .int .i64 0, .int .i64 0, .int .u8 0, .int .u8 0, .int .u8 0, .int .u8 0, .int .u8 0, .int .u8 0, .int .u8 0, .int .u8 0, .int .u8 0, .int .u8 0, .int .u8 0, .int .u8 0, .int .u8 0, .int .u8 0, .int .u8 0, .int .u8 0, .slice none 0 0] 25) := ⟨_, rfl⟩
  have hsW : W.heap.size = w.heap.size + 1 := by rw [hW]; simp
  have HBW := Lib.hid (show Below w.heap.size w W by rw [hW]; exact allocBelow w _)
  have HRof : ∀ V, Keeps (· < 0) W V → Hid ((∀ j, V.cell? ⟨w.heap.size, j, none⟩ = (Pdu.pdZero.cells (.slice none 0 0))[j]?) ∧ ∀ j, V.frozen? ⟨w.heap.size, j, none⟩ = false) := fun V hV => ⟨fun j => (hV.cell (p := ⟨w.heap.size, j, none⟩) (by simp; omega) (Nat.not_lt_zero _)).trans (by rw [hW]; exact World.cell?_alloc_new _ _ _ _),
    fun j => (hV.frozen (p := ⟨w.heap.size, j, none⟩) (by simp; omega) (Nat.not_lt_zero _)).trans (by rw [hW]; exact frozen_new _ _ _ _)⟩
  have HDof : ∀ V, Keeps (· < 0) W V → Hid (BytesAt V (.slice bo n c) l) := fun V hV => (h.later HBW.out).keeps hV (fun _ _ _ _ _ => Nat.not_lt_zero _)
  have HByt := Lib.hid hB
  have HI2 := Lib.hid (show (Try.prog.info? 25).map (·.size) = some 27 by kernel_rfl)
  have HU2 := Lib.hid (Try.underlying25)
  have HM := Lib.hid hm
  have hm1 := hm.1
  have hm2 := hm.2
  clear h hB hm
  have HK := Lib.hid (Keeps.refl (· < 0) W)
  go_enter Try.func17, Try.ntmps17
  go_upto_region 1 with fail
  rw [← hW]
  clear hW
  go_upto_if 16 with fail
  go_cut [11] from 16 to 18 (fun s11 wx => s11 = .int .i64 (Pdu.off head : Nat) ∧ W = wx)
  case first =>
    cases head with
    | false =>
      go_wp2_with fail
      go_meet
      exact ⟨rfl, rfl⟩
    | true =>
      go_wp2_with fail
      go_meet
      exact ⟨rfl, rfl⟩
  case rest =>
    obtain ⟨rfl, hWc⟩ := hcut
    subst hWc
    by_cases hmost : 0 ≤ most ∧ most ≤ 1024
    case neg =>
      have HPa := Lib.hid (show Pdu.parse l head data most = (Pdu.pdZero, 0, 1) from by unfold Pdu.parse; rw [if_pos (by omega)])
      rcases Int.lt_or_le most 0 with hneg | hneg
      · have t1 : decide (most < 0) = true := by rw [decide_eq_true_eq]; exact hneg
        clear hmost
        have HRx := HRof W HK.out
        go_wp2_with (first | (refine wpList_store_pd rfl 25 (.tmp 8) (.tmp 25) rfl w.heap.size Pdu.pdZero (Pdu.pdZero) (.slice none 0 0) (.slice none 0 0) rfl rfl HRx.out.1 HRx.out.2 rfl HI2.out ?_; intro W9 hc9 hf9 hk9 hs9; have HC9 := Lib.hid hc9; have HK9 := Lib.hid hk9; clear hc9 hf9 hk9))
        (try simp only [Exit.inBlock, Exit.then])
        refine bodyPost_ret (results_cell3 (cs := ((Pdu.pdZero).cells (.slice none 0 0)).toList) rfl _ rfl (pd_range (Pdu.pdZero) _ _ _ HC9.out) HU2.out rfl (by rw [HI2.out]; rfl)) rfl ?_
        unfold RefPost
        rw [HPa.out]
        exact ⟨_, rfl, Owns.nil _ _, ((((Keeps.of_below (F := fun z => z < 0 ∨ z = w.heap.size) HBW.out).trans HK.out (fun _ _ h => .inl h)).trans HK9.out (fun z h1 h2 => .inr h2) : Keeps (fun z => z < 0 ∨ z = w.heap.size) w W9).below (Nat.le_refl _) (fun z h1 h2 => by omega))⟩
      · have t1 : decide (most < 0) = false := by rw [decide_eq_false_iff_not]; omega
        have t2 : decide (1024 < most) = true := by rw [decide_eq_true_eq]; omega
        clear hmost
        have HRx := HRof W HK.out
        go_wp2_with (first | (refine wpList_store_pd rfl 25 (.tmp 8) (.tmp 25) rfl w.heap.size Pdu.pdZero (Pdu.pdZero) (.slice none 0 0) (.slice none 0 0) rfl rfl HRx.out.1 HRx.out.2 rfl HI2.out ?_; intro W9 hc9 hf9 hk9 hs9; have HC9 := Lib.hid hc9; have HK9 := Lib.hid hk9; clear hc9 hf9 hk9))
        (try simp only [Exit.inBlock, Exit.then])
        refine bodyPost_ret (results_cell3 (cs := ((Pdu.pdZero).cells (.slice none 0 0)).toList) rfl _ rfl (pd_range (Pdu.pdZero) _ _ _ HC9.out) HU2.out rfl (by rw [HI2.out]; rfl)) rfl ?_
        unfold RefPost
        rw [HPa.out]
        exact ⟨_, rfl, Owns.nil _ _, ((((Keeps.of_below (F := fun z => z < 0 ∨ z = w.heap.size) HBW.out).trans HK.out (fun _ _ h => .inl h)).trans HK9.out (fun z h1 h2 => .inr h2) : Keeps (fun z => z < 0 ∨ z = w.heap.size) w W9).below (Nat.le_refl _) (fun z h1 h2 => by omega))⟩
    case pos =>
      obtain ⟨hmo0, hmo1⟩ := hmost
      have t1 : decide (most < 0) = false := by rw [decide_eq_false_iff_not]; omega
      have t2 : decide (1024 < most) = false := by rw [decide_eq_false_iff_not]; omega
      have HGo := Lib.hid (show ¬ (most < 0 ∨ 1024 < most) by omega)
      have HN := Lib.hid (off_cases head)
      obtain ⟨N, hN⟩ : ∃ N, N = Pdu.off head := ⟨_, rfl⟩
      rw [← hN]
      rw [← hN] at HN
      have hN48 : 48 ≤ N ∧ N ≤ 52 := by rcases HN.out with ⟨_, h⟩ | ⟨_, h⟩ <;> omega
      have HNE := Lib.hid hN; clear hN
      by_cases hlen : n < N
      case pos =>
        have HPa := Lib.hid (show Pdu.parse l head data most = (Pdu.pdZero, 0, 0) from by unfold Pdu.parse; rw [if_neg HGo.out, if_pos (by rw [← HNE.out]; omega)])
        have tl : decide ((n : Int) < (N : Int)) = true := by rw [decide_eq_true_eq]; omega
        have HRx := HRof W HK.out
        go_wp2_with (first | (refine wpList_store_pd rfl 25 (.tmp 8) (.tmp 30) rfl w.heap.size Pdu.pdZero (Pdu.pdZero) (.slice none 0 0) (.slice none 0 0) rfl rfl HRx.out.1 HRx.out.2 rfl HI2.out ?_; intro W9 hc9 hf9 hk9 hs9; have HC9 := Lib.hid hc9; have HK9 := Lib.hid hk9; clear hc9 hf9 hk9))
        (try simp only [Exit.inBlock, Exit.then])
        refine bodyPost_ret (results_cell3 (cs := ((Pdu.pdZero).cells (.slice none 0 0)).toList) rfl _ rfl (pd_range (Pdu.pdZero) _ _ _ HC9.out) HU2.out rfl (by rw [HI2.out]; rfl)) rfl ?_
        unfold RefPost
        rw [HPa.out]
        exact ⟨_, rfl, Owns.nil _ _, ((((Keeps.of_below (F := fun z => z < 0 ∨ z = w.heap.size) HBW.out).trans HK.out (fun _ _ h => .inl h)).trans HK9.out (fun z h1 h2 => .inr h2) : Keeps (fun z => z < 0 ∨ z = w.heap.size) w W9).below (Nat.le_refl _) (fun z h1 h2 => by omega))⟩
      case neg =>
        have tl : decide ((n : Int) < (N : Int)) = false := by rw [decide_eq_false_iff_not]; omega
        have HLen := Lib.hid (show ¬ l.length < Pdu.off head by rw [← HNE.out]; omega)
        obtain ⟨B, o, rfl, hBl, _⟩ := (HDof W (Keeps.refl _ _)).out.at 0 (by omega)
        have HCb : ∀ V, Keeps (· < 0) W V → Hid (∀ j, j < l.length → V.cell? ⟨B, o + j, none⟩ = some (.int .u8 (l.getD j 0 : Nat))) := fun V hV j hj => by
          obtain ⟨b', o', e, _, hc⟩ := (HDof V hV).out.at j hj
          injection e with e
          injection e with e1 e2
          subst e1; subst e2
          exact hc
        go_upto_region 8 with fail
        go_cut [41] from 31 to 41 (fun s48 wx => s48 = .bool (head && !decide ((l.drop 48).take 4 = Pdu.sumS (l.take 48))) ∧ Keeps (· < 0) W wx)
        case first =>
          cases head with
          | false =>
            go_quiet (fail)
            go_wp2_with fail
            go_meet
            exact ⟨rfl, HK.out.drewN _⟩
          | true =>
            obtain rfl : N = 52 := HNE.out
            have hc48 : ¬ c = 48 := by omega
            have hi52 : (52 : Int) ≤ (c : Int) := by omega
            have hi48 : (48 : Int) ≤ (c : Int) := by omega
            have hk0 : Keeps (· < 0) W W.drew := HK.out.drew
            have HP1 := Lib.hid (show BytesAt W.drew (.slice (some ⟨B, o, none⟩) 48 c) (l.take 48) from by have := (HDof _ hk0).out.part 0 48 c (by omega) (by omega); simpa using this)
            go_region_held3 (fun _ => True) (trivial)
              (first
                | (go_at_call_of 23 (Value.slice none 0 0); refine (summed02_any W.heap.size (.slice none 0 0) _ [] (l.take 48) _ (Owns.nil _ _) HP1.out (take_bytes HByt.out 48) hk0.size (by simp) (by simp; omega)).mono ?_; rintro _ V1 ⟨v1, rfl, ho1, hb1⟩; rw [List.nil_append] at ho1; have HO1 := Lib.hid ho1; have hk2 : Keeps (· < 0) W V1 := hk0.trans (Keeps.of_below (a := W.drew) (F := (· < 0)) hb1) (fun _ _ h => h); clear ho1 hb1)
                | (go_at_call_of 13 v1; refine (same_any _ v1 ((l.drop 48).take 4) (Pdu.sumS (l.take 48)) _ (by have := (HDof _ hk2).out.part 48 (48 + 4) (c - 48) (by omega) (by omega); rw [drop_take_part] at this; simpa using this) HO1.out.bytes (by simp; omega)).mono ?_; rintro _ V2 ⟨rfl, hb2⟩; have hk3 : Keeps (· < 0) W V2 := hk2.trans (Keeps.of_below (F := (· < 0)) hb2) (fun _ _ h => h); clear hb2))
            all_goals
              go_wp2_with fail
              go_meet
              exact ⟨rfl, hk3⟩
        case rest =>
          obtain ⟨rfl, hk⟩ := hcut
          clear HK
          have HK := Lib.hid hk
          clear hk
          by_cases hsum : head = true ∧ (l.drop 48).take 4 ≠ Pdu.sumS (l.take 48)
          case pos =>
            have HPa := Lib.hid (show Pdu.parse l head data most = (Pdu.pdZero, N, 13) from by unfold Pdu.parse; rw [if_neg HGo.out, if_neg HLen.out, if_pos hsum, HNE.out])
            have hb1 : (head && !decide ((l.drop 48).take 4 = Pdu.sumS (l.take 48))) = true := by rw [hsum.1, decide_eq_false hsum.2]; rfl
            rw [hb1]
            clear hb1 hsum
            have HRx := HRof wc HK.out
            go_wp2_with (first | (refine wpList_store_pd rfl 25 (.tmp 8) (.tmp 42) rfl w.heap.size Pdu.pdZero (Pdu.pdZero) (.slice none 0 0) (.slice none 0 0) rfl rfl HRx.out.1 HRx.out.2 rfl HI2.out ?_; intro W9 hc9 hf9 hk9 hs9; have HC9 := Lib.hid hc9; have HK9 := Lib.hid hk9; clear hc9 hf9 hk9))
            (try simp only [Exit.inBlock, Exit.then])
            refine bodyPost_ret (results_cell3 (cs := ((Pdu.pdZero).cells (.slice none 0 0)).toList) rfl _ rfl (pd_range (Pdu.pdZero) _ _ _ HC9.out) HU2.out rfl (by rw [HI2.out]; rfl)) rfl ?_
            unfold RefPost
            rw [HPa.out]
            exact ⟨_, rfl, Owns.nil _ _, ((((Keeps.of_below (F := fun z => z < 0 ∨ z = w.heap.size) HBW.out).trans HK.out (fun _ _ h => .inl h)).trans HK9.out (fun z h1 h2 => .inr h2) : Keeps (fun z => z < 0 ∨ z = w.heap.size) w W9).below (Nat.le_refl _) (fun z h1 h2 => by omega))⟩
          case neg =>
            have hb1 : (head && !decide ((l.drop 48).take 4 = Pdu.sumS (l.take 48))) = false := by
              by_cases h1 : head = true
              · rw [h1, decide_eq_true (Decidable.of_not_not (fun h2 => hsum ⟨h1, h2⟩))]; rfl
              · rw [Bool.not_eq_true] at h1; rw [h1]; rfl
            rw [hb1]
            have HNS := Lib.hid hsum
            clear hb1 hsum
            go_wp2_with fail
            refine (read18_any B o n c l wc (HDof wc HK.out).out HByt.out (by omega) hcap (by omega)).mono ?_
            rintro e V ⟨rfl, hbV⟩
            have HKV := Lib.hid (HK.out.trans (Keeps.of_below (F := fun _ => False) hbV) (fun _ _ h => h.elim))
            have hVs : W.heap.size ≤ V.heap.size := HKV.out.size
            clear hbV HK
            obtain ⟨P, hP⟩ : ∃ P, P = V.heap.size := ⟨_, rfl⟩
            have HP := Lib.hid hP
            go_upto_region 11 with (refine wpList_store_pd rfl 25 (.tmp 12) (.tmp 45) rfl V.heap.size Pdu.pdZero (Pdu.read l) (.slice none 0 0) (.slice none 0 0) rfl rfl (fun j => show (V.alloc (.cells #[.int .i64 0, .bool false, .int .i64 0, .int .i64 0, .int .i64 0, .int .i64 0, .int .i64 0, .int .i64 0, .int .i64 0, .int .i64 0, .int .u8 0, .int .u8 0, .int .u8 0, .int .u8 0, .int .u8 0, .int .u8 0, .int .u8 0, .int .u8 0, .int .u8 0, .int .u8 0, .int .u8 0, .int .u8 0, .int .u8 0, .int .u8 0, .int .u8 0, .int .u8 0, .slice none 0 0] 25)).cell? _ = _ from World.cell?_alloc_new _ _ _ _) (fun j => frozen_new _ _ _ _) rfl HI2.out ?_; intro W6 hc6 hf6 hk6 hs6; have HC6 := Lib.hid hc6; have HF6 := Lib.hid hf6; have HK6 := Lib.hid hk6; clear hc6 hf6 hk6)
            rw [← hP]
            rw [← hP] at HC6 HF6 HK6
            have hPW : W.heap.size ≤ P := by omega
            have hs6 : W6.heap.size = P + 1 := by rw [hs6, hP]; simp
            clear hP
            have hal : Keeps (fun _ => False) V (V.alloc (.cells #[.int .i64 0, .bool false, .int .i64 0, .int .i64 0, .int .i64 0, .int .i64 0, .int .i64 0, .int .i64 0, .int .i64 0, .int .i64 0, .int .u8 0, .int .u8 0, .int .u8 0, .int .u8 0, .int .u8 0, .int .u8 0, .int .u8 0, .int .u8 0, .int .u8 0, .int .u8 0, .int .u8 0, .int .u8 0, .int .u8 0, .int .u8 0, .int .u8 0, .int .u8 0, .slice none 0 0] 25)) := (Keeps.refl _ V).alloc _
            have HK := Lib.hid (show Keeps (· < 0) W W6 from (HKV.out.trans hal (fun _ _ h => h.elim)).trans HK6.out (fun z h1 h2 => by omega))
            clear HKV HK6 hal
            have HC0 := HCb W6 HK.out
            have hi0 : (0 : Int) < (n : Int) := by omega
            have hi4 : (4 : Int) < (n : Int) := by omega
            have xb0 : W6.cell? ⟨B, o, none⟩ = some (.int .u8 (l.getD 0 0 : Nat)) := HC0.out 0 (by omega)
            have xb4 : W6.cell? ⟨B, o + 4, none⟩ = some (.int .u8 (l.getD 4 0 : Nat)) := HC0.out 4 (by omega)
            have hbb0 : l.getD 0 0 < 256 := getD_byte HByt.out 0
            have hbb4 : l.getD 4 0 < 256 := getD_byte HByt.out 4
            by_cases h128 : 128 ≤ l.getD 0 0
            case pos =>
              have HPa := Lib.hid (show Pdu.parse l head data most = (Pdu.read l, N, 40) from by unfold Pdu.parse; rw [if_neg HGo.out, if_neg HLen.out, if_neg HNS.out, if_pos (.inl h128), HNE.out])
              generalize l.getD 0 0 = b0 at *
              generalize l.getD 4 0 = b4 at *
              have k0 : decide ((128 : Int) ≤ (b0 : Int)) = true := by rw [decide_eq_true_eq]; omega
              have HCP := HC6
              have HRx := HRof W6 HK.out
              go_wp2_with (first | refine wpList_load_pd rfl 25 (.tmp 12) rfl P rfl (Pdu.read l) (.slice none 0 0) _ HU2.out rfl HI2.out HCP.out ?_ | (refine wpList_store_pd rfl 25 (.tmp 8) (.tmp 56) rfl w.heap.size Pdu.pdZero (Pdu.read l) (.slice none 0 0) (.slice none 0 0) rfl rfl HRx.out.1 HRx.out.2 rfl HI2.out ?_; intro W9 hc9 hf9 hk9 hs9; have HC9 := Lib.hid hc9; have HK9 := Lib.hid hk9; clear hc9 hf9 hk9))
              (try simp only [Exit.inBlock, Exit.then])
              refine bodyPost_ret (results_cell3 (cs := ((Pdu.read l).cells (.slice none 0 0)).toList) rfl _ rfl (pd_range (Pdu.read l) _ _ _ HC9.out) HU2.out rfl (by rw [HI2.out]; rfl)) rfl ?_
              unfold RefPost
              rw [HPa.out]
              exact ⟨_, rfl, Owns.nil _ _, ((((Keeps.of_below (F := fun z => z < 0 ∨ z = w.heap.size) HBW.out).trans HK.out (fun _ _ h => .inl h)).trans HK9.out (fun z h1 h2 => .inr h2) : Keeps (fun z => z < 0 ∨ z = w.heap.size) w W9).below (Nat.le_refl _) (fun z h1 h2 => by omega))⟩
            case neg =>
              by_cases h4 : l.getD 4 0 = 0
              case neg =>
                have HPa := Lib.hid (show Pdu.parse l head data most = (Pdu.read l, N, 40) from by unfold Pdu.parse; rw [if_neg HGo.out, if_neg HLen.out, if_neg HNS.out, if_pos (.inr h4), HNE.out])
                generalize l.getD 0 0 = b0 at *
                generalize l.getD 4 0 = b4 at *
                have k0 : decide ((128 : Int) ≤ (b0 : Int)) = false := by rw [decide_eq_false_iff_not]; omega
                have k4 : ((b4 : Int) != 0) = true := by rw [bne_iff_ne]; omega
                have HCP := HC6
                have HRx := HRof W6 HK.out
                go_wp2_with (first | refine wpList_load_pd rfl 25 (.tmp 12) rfl P rfl (Pdu.read l) (.slice none 0 0) _ HU2.out rfl HI2.out HCP.out ?_ | (refine wpList_store_pd rfl 25 (.tmp 8) (.tmp 56) rfl w.heap.size Pdu.pdZero (Pdu.read l) (.slice none 0 0) (.slice none 0 0) rfl rfl HRx.out.1 HRx.out.2 rfl HI2.out ?_; intro W9 hc9 hf9 hk9 hs9; have HC9 := Lib.hid hc9; have HK9 := Lib.hid hk9; clear hc9 hf9 hk9))
                (try simp only [Exit.inBlock, Exit.then])
                refine bodyPost_ret (results_cell3 (cs := ((Pdu.read l).cells (.slice none 0 0)).toList) rfl _ rfl (pd_range (Pdu.read l) _ _ _ HC9.out) HU2.out rfl (by rw [HI2.out]; rfl)) rfl ?_
                unfold RefPost
                rw [HPa.out]
                exact ⟨_, rfl, Owns.nil _ _, ((((Keeps.of_below (F := fun z => z < 0 ∨ z = w.heap.size) HBW.out).trans HK.out (fun _ _ h => .inl h)).trans HK9.out (fun z h1 h2 => .inr h2) : Keeps (fun z => z < 0 ∨ z = w.heap.size) w W9).below (Nat.le_refl _) (fun z h1 h2 => by omega))⟩
              case pos =>
                have HPar := Lib.hid (show Pdu.parse l head data most = parseTail l head data most from by unfold Pdu.parse parseTail; rw [if_neg HGo.out, if_neg HLen.out, if_neg HNS.out, if_neg (by omega)])
                obtain ⟨L, hL⟩ : ∃ L, L = Pdu.numAt l 5 3 := ⟨_, rfl⟩
                have HNum := Lib.hid (number_any (.slice (some ⟨B, o, none⟩) n c) l 5 3 W6 (HDof W6 HK.out).out HByt.out (by omega) (by omega) (by omega) (by omega))
                rw [← hL] at HNum
                have hL24 : L < 16777216 := by
                  have h1 := numAt_lt l 5 3 HByt.out
                  have h2 : (256 : Nat) ^ 3 = 16777216 := by decide
                  omega
                have HL := Lib.hid hL
                clear hL
                generalize l.getD 0 0 = b0 at *
                generalize l.getD 4 0 = b4 at *
                have k0 : decide ((128 : Int) ≤ (b0 : Int)) = false := by rw [decide_eq_false_iff_not]; omega
                have k4 : ((b4 : Int) != 0) = false := by rw [bne_eq_false_iff_eq]; omega
                go_wp2_with fail
                refine HNum.out.mono ?_
                rintro e W6 ⟨rfl, hW6⟩
                subst hW6
                have HCP := HC6
                have HFP := HF6
                have hs7 : W6.heap.size = P + 1 := hs6
                clear HC6 HF6 HC0 xb0 xb4 hs6 HNum
                by_cases hLm : most < (L : Int)
                case pos =>
                  have HPa := Lib.hid (show Pdu.parse l head data most = (Pdu.read l, N, 42) from by rw [HPar.out]; unfold parseTail; rw [if_pos (by rw [← HL.out]; exact hLm), HNE.out])
                  have km : decide (most < (L : Int)) = true := by rw [decide_eq_true_eq]; exact hLm
                  have HRx := HRof W6 HK.out
                  go_wp2_with (first | refine wpList_load_pd rfl 25 (.tmp 12) rfl P rfl (Pdu.read l) (.slice none 0 0) _ HU2.out rfl HI2.out HCP.out ?_ | (refine wpList_store_pd rfl 25 (.tmp 8) (.tmp 63) rfl w.heap.size Pdu.pdZero (Pdu.read l) (.slice none 0 0) (.slice none 0 0) rfl rfl HRx.out.1 HRx.out.2 rfl HI2.out ?_; intro W9 hc9 hf9 hk9 hs9; have HC9 := Lib.hid hc9; have HK9 := Lib.hid hk9; clear hc9 hf9 hk9))
                  (try simp only [Exit.inBlock, Exit.then])
                  refine bodyPost_ret (results_cell3 (cs := ((Pdu.read l).cells (.slice none 0 0)).toList) rfl _ rfl (pd_range (Pdu.read l) _ _ _ HC9.out) HU2.out rfl (by rw [HI2.out]; rfl)) rfl ?_
                  unfold RefPost
                  rw [HPa.out]
                  exact ⟨_, rfl, Owns.nil _ _, ((((Keeps.of_below (F := fun z => z < 0 ∨ z = w.heap.size) HBW.out).trans HK.out (fun _ _ h => .inl h)).trans HK9.out (fun z h1 h2 => .inr h2) : Keeps (fun z => z < 0 ∨ z = w.heap.size) w W9).below (Nat.le_refl _) (fun z h1 h2 => by omega))⟩
                case neg =>
                  have HLm := Lib.hid (show ¬ most < (Pdu.numAt l 5 3 : Int) by rw [← HL.out]; exact hLm)
                  have km : decide (most < (L : Int)) = false := by rw [decide_eq_false_iff_not]; exact hLm
                  have hq : Pdu.pad4 L ≤ L + 3 ∧ L ≤ Pdu.pad4 L := by unfold Pdu.pad4; omega
                  obtain ⟨q, hqe⟩ : ∃ q, q = Pdu.pad4 L := ⟨_, rfl⟩
                  rw [← hqe] at hq
                  have HE := Lib.hid (show Pdu.ends l head data = N + q + (if (data && decide (0 < L)) = true then 4 else 0) from by unfold Pdu.ends; rw [HNE.out, hqe, HL.out])
                  have HQ := Lib.hid hqe
                  have hL1024 : L ≤ 1024 := by omega
                  clear hqe hLm
                  have hdv : (((L : Int) + 3).tdiv 4) * 4 = (q : Int) := by
                    have e1 : ((L : Int) + 3).tdiv 4 = (((L + 3) / 4 : Nat) : Int) := by rw [Int.tdiv_eq_ediv_of_nonneg (by omega)]; omega
                    rw [e1, HQ.out]
                    unfold Pdu.pad4
                    omega
                  have hdv2 : (((L : Int) + 3) / 4) * 4 = (q : Int) := by
                    rw [HQ.out]
                    unfold Pdu.pad4
                    omega
                  go_upto_region 18 with fail
                  go_cut [76] from 72 to 76 (fun s95 wx => s95 = .bool (data && decide (0 < L)) ∧ W6 = wx)
                  case first =>
                    cases data with
                    | false =>
                      go_wp2_with fail
                      go_meet
                      exact ⟨rfl, rfl⟩
                    | true =>
                      by_cases hL0 : 0 < L
                      · have kl : decide ((0 : Int) < (L : Int)) = true := by rw [decide_eq_true_eq]; omega
                        go_wp2_with fail
                        go_meet
                        exact ⟨by rw [decide_eq_true hL0]; rfl, rfl⟩
                      · have kl : decide ((0 : Int) < (L : Int)) = false := by rw [decide_eq_false_iff_not]; omega
                        go_wp2_with fail
                        go_meet
                        exact ⟨by rw [decide_eq_false hL0]; rfl, rfl⟩
                  case rest =>
                    obtain ⟨rfl, hWc⟩ := hcut
                    subst hWc
                    obtain ⟨dd, hdd⟩ : ∃ dd, dd = (data && decide (0 < L)) := ⟨_, rfl⟩
                    rw [← hdd]
                    rw [← hdd] at HE
                    have HDD := Lib.hid hdd; clear hdd
                    obtain ⟨E, hE⟩ : ∃ E, E = Pdu.ends l head data := ⟨_, rfl⟩
                    rw [← hE] at HE
                    have HEE := Lib.hid hE; clear hE
                    have hEb : N + q ≤ E ∧ E ≤ N + q + 4 := by have := HE.out; cases dd <;> simp at this <;> omega
                    go_upto_if 76 with fail
                    go_cut [15] from 77 to 78 (fun s16 wx => s16 = .int .i64 (E : Int) ∧ W6 = wx)
                    case first =>
                      cases dd with
                      | false =>
                        have he : ((N : Int) + (q : Int)) = (E : Int) := by have := HE.out; simp at this; omega
                        go_wp2_with fail
                        go_meet
                        exact ⟨by rw [← he], rfl⟩
                      | true =>
                        have he : ((N : Int) + (q : Int)) + 4 = (E : Int) := by have := HE.out; simp at this; omega
                        go_wp2_with fail
                        go_meet
                        exact ⟨by rw [← he], rfl⟩
                    case rest =>
                      obtain ⟨rfl, hWc⟩ := hcut
                      subst hWc
                      by_cases hEn : n < E
                      case pos =>
                        have HPa := Lib.hid (show Pdu.parse l head data most = (Pdu.pdZero, 0, 0) from by rw [HPar.out]; unfold parseTail; rw [if_neg (by have := HLm.out; omega), if_pos (by rw [← HEE.out]; omega)])
                        have ke : decide ((n : Int) < (E : Int)) = true := by rw [decide_eq_true_eq]; omega
                        have HRx := HRof W6 HK.out
                        go_wp2_with (first | (refine wpList_store_pd rfl 25 (.tmp 8) (.tmp 83) rfl w.heap.size Pdu.pdZero (Pdu.pdZero) (.slice none 0 0) (.slice none 0 0) rfl rfl HRx.out.1 HRx.out.2 rfl HI2.out ?_; intro W9 hc9 hf9 hk9 hs9; have HC9 := Lib.hid hc9; have HK9 := Lib.hid hk9; clear hc9 hf9 hk9))
                        (try simp only [Exit.inBlock, Exit.then])
                        refine bodyPost_ret (results_cell3 (cs := ((Pdu.pdZero).cells (.slice none 0 0)).toList) rfl _ rfl (pd_range (Pdu.pdZero) _ _ _ HC9.out) HU2.out rfl (by rw [HI2.out]; rfl)) rfl ?_
                        unfold RefPost
                        rw [HPa.out]
                        exact ⟨_, rfl, Owns.nil _ _, ((((Keeps.of_below (F := fun z => z < 0 ∨ z = w.heap.size) HBW.out).trans HK.out (fun _ _ h => .inl h)).trans HK9.out (fun z h1 h2 => .inr h2) : Keeps (fun z => z < 0 ∨ z = w.heap.size) w W9).below (Nat.le_refl _) (fun z h1 h2 => by omega))⟩
                      case neg =>
                        have HEn := Lib.hid (show ¬ l.length < Pdu.ends l head data by rw [← HEE.out]; omega)
                        have ke : decide ((n : Int) < (E : Int)) = false := by rw [decide_eq_false_iff_not]; omega
                        go_upto_region 22 with fail
                        go_cut [99] from 84 to 99 (fun s119 wx => s119 = .bool (dd && !decide ((l.drop (N + q)).take 4 = Pdu.sumS ((l.drop N).take q))) ∧ Keeps (· < 0) W6 wx)
                        case first =>
                          cases dd with
                          | false =>
                            have kd : decide ((N : Int) + (q : Int) < (E : Int)) = false := by have := HE.out; simp at this; rw [decide_eq_false_iff_not]; omega
                            go_quiet (fail)
                            go_wp2_with fail
                            go_meet
                            exact ⟨rfl, (Keeps.refl _ _).drewN _⟩
                          | true =>
                            have HE4 := Lib.hid (show E = N + q + 4 from by have := HE.out; simpa using this)
                            have kd : decide ((N : Int) + (q : Int) < (E : Int)) = true := by have := HE4.out; rw [decide_eq_true_eq]; omega
                            have hcN : ¬ c = N := by have := HE4.out; omega
                            have hcS : ¬ c = N + q := by have := HE4.out; omega
                            have hNE : N + q ≤ E := by omega
                            have h22a : (N : Int) + (q : Int) ≤ (E : Int) := by omega
                            have h22b : (E : Int) ≤ (c : Int) := by omega
                            have h22c : (N : Int) ≤ (N : Int) + (q : Int) := by omega
                            have h22d : (N : Int) + (q : Int) ≤ (c : Int) := by omega
                            have h22e : (0 : Int) ≤ (N : Int) + (q : Int) := by omega
                            have hk0 : Keeps (· < 0) W6 W6.drew := (Keeps.refl _ _).drew
                            have HP1 := Lib.hid (show BytesAt W6.drew (.slice (some ⟨B, o + N, none⟩) q (c - N)) ((l.drop N).take q) from by have := (HDof _ (HK.out.trans hk0 (fun _ _ h => h))).out.part N (N + q) (c - N) (by omega) (by omega); rw [drop_take_part, Nat.add_sub_cancel_left] at this; exact this)
                            go_region_held3 (fun _ => True) (trivial)
                              (first
                                | (go_at_call_of 23 (Value.slice none 0 0); refine (summed02_any W6.heap.size (.slice none 0 0) _ [] ((l.drop N).take q) _ (Owns.nil _ _) (by first | exact HP1.out | (rw [show ((N : Int) + (q : Int)).toNat - N = q by omega]; exact HP1.out)) (take_bytes (drop_bytes HByt.out N) q) hk0.size (by simp) (by simp; omega)).mono ?_; rintro _ V1 ⟨v1, rfl, ho1, hb1⟩; rw [List.nil_append] at ho1; have HO1 := Lib.hid ho1; have hk2 : Keeps (· < 0) W6 V1 := hk0.trans (Keeps.of_below (a := W6.drew) (F := (· < 0)) hb1) (fun _ _ h => h); clear ho1 hb1)
                                | (go_at_call_of 13 v1; refine (same_any _ v1 ((l.drop (N + q)).take 4) (Pdu.sumS ((l.drop N).take q)) _ (by have := (HDof _ (HK.out.trans hk2 (fun _ _ h => h))).out.part (N + q) (N + q + 4) (c - (N + q)) (by omega) (by have := HE4.out; omega); rw [drop_take_part, Nat.add_sub_cancel_left] at this; first | (rw [show ((N : Int) + (q : Int)).toNat = N + q by omega, show E - (N + q) = 4 by have := HE4.out; omega]; exact this) | (rw [show E - (N + q) = 4 by have := HE4.out; omega]; exact this)) HO1.out.bytes (by have := HE4.out; simp; omega)).mono ?_; rintro _ V2 ⟨rfl, hb2⟩; have hk3 : Keeps (· < 0) W6 V2 := hk2.trans (Keeps.of_below (F := (· < 0)) hb2) (fun _ _ h => h); clear hb2))
                            all_goals
                              go_wp2_with fail
                              go_meet
                              exact ⟨rfl, hk3⟩
                        case rest =>
                          obtain ⟨rfl, hk⟩ := hcut
                          have HK9 := Lib.hid hk
                          have HK := Lib.hid (HK.out.trans hk (fun _ _ h => h))
                          have hsw : P + 1 ≤ wc.heap.size := by have := hk.size; omega
                          have HCP := Lib.hid (show ∀ j, wc.cell? ⟨P, j, none⟩ = ((Pdu.read l).cells (.slice none 0 0))[j]? from fun j => (HK9.out.cell (p := ⟨P, j, none⟩) (by simp; omega) (Nat.not_lt_zero _)).trans (HCP.out j))
                          have HFP := Lib.hid (show ∀ j, wc.frozen? ⟨P, j, none⟩ = false from fun j => (HK9.out.frozen (p := ⟨P, j, none⟩) (by simp; omega) (Nat.not_lt_zero _)).trans (HFP.out j))
                          clear hk HK9
                          by_cases hdig : dd = true ∧ (l.drop (N + q)).take 4 ≠ Pdu.sumS ((l.drop N).take q)
                          case pos =>
                            have HPa := Lib.hid (show Pdu.parse l head data most = (Pdu.read l, E, 41) from by
                              rw [HPar.out]; unfold parseTail
                              rw [if_neg (by have := HLm.out; omega), if_neg (by have := HEn.out; omega), ← HL.out, ← HDD.out, ← HQ.out, ← HNE.out, if_pos hdig, HEE.out])
                            have hb1 : (dd && !decide ((l.drop (N + q)).take 4 = Pdu.sumS ((l.drop N).take q))) = true := by rw [hdig.1, decide_eq_false hdig.2]; rfl
                            rw [hb1]
                            clear hb1 hdig
                            have HRx := HRof wc HK.out
                            go_wp2_with (first | refine wpList_load_pd rfl 25 (.tmp 12) rfl P rfl (Pdu.read l) (.slice none 0 0) _ HU2.out rfl HI2.out HCP.out ?_ | (refine wpList_store_pd rfl 25 (.tmp 8) (.tmp 100) rfl w.heap.size Pdu.pdZero (Pdu.read l) (.slice none 0 0) (.slice none 0 0) rfl rfl HRx.out.1 HRx.out.2 rfl HI2.out ?_; intro W9 hc9 hf9 hk9 hs9; have HC9 := Lib.hid hc9; have HK9 := Lib.hid hk9; clear hc9 hf9 hk9))
                            (try simp only [Exit.inBlock, Exit.then])
                            refine bodyPost_ret (results_cell3 (cs := ((Pdu.read l).cells (.slice none 0 0)).toList) rfl _ rfl (pd_range (Pdu.read l) _ _ _ HC9.out) HU2.out rfl (by rw [HI2.out]; rfl)) rfl ?_
                            unfold RefPost
                            rw [HPa.out]
                            exact ⟨_, rfl, Owns.nil _ _, ((((Keeps.of_below (F := fun z => z < 0 ∨ z = w.heap.size) HBW.out).trans HK.out (fun _ _ h => .inl h)).trans HK9.out (fun z h1 h2 => .inr h2) : Keeps (fun z => z < 0 ∨ z = w.heap.size) w W9).below (Nat.le_refl _) (fun z h1 h2 => by omega))⟩
                          case neg =>
                            have HPa := Lib.hid (show Pdu.parse l head data most = ({ Pdu.read l with data := (l.drop N).take L }, E, 0) from by
                              rw [HPar.out]; unfold parseTail
                              rw [if_neg (by have := HLm.out; omega), if_neg (by have := HEn.out; omega), ← HL.out, ← HDD.out, ← HQ.out, ← HNE.out, if_neg hdig, HEE.out])
                            have hb1 : (dd && !decide ((l.drop (N + q)).take 4 = Pdu.sumS ((l.drop N).take q))) = false := by
                              by_cases h1 : dd = true
                              · rw [h1, decide_eq_true (Decidable.of_not_not (fun h2 => hdig ⟨h1, h2⟩))]; rfl
                              · rw [Bool.not_eq_true] at h1; rw [h1]; rfl
                            rw [hb1]
                            clear hb1 hdig
                            obtain ⟨X, hX⟩ : ∃ X, X = (l.drop N).take L := ⟨_, rfl⟩
                            rw [← hX] at HPa
                            have hXl : X.length = L := by rw [hX]; simp; omega
                            have HX := Lib.hid hX
                            clear hX
                            have hj1 : (N : Int) + (L : Int) ≤ (c : Int) := by omega
                            have hj2 : (N : Int) ≤ (N : Int) + (L : Int) := by omega
                            have hw24 : W.heap.size ≤ wc.heap.size := HK.out.size
                            have hwr : IntKind.i64.wrap ((N : Int) + (L : Int)) = (N : Int) + (L : Int) := IntWalk.i64_in _ (by omega)
                            have hwr2 : IntKind.i64.wrap (N : Int) = (N : Int) := IntWalk.i64_in _ (by omega)
                            have htn : ((N : Int) + (L : Int)).toNat = N + L := by omega
                            have hj0 : (0 : Int) ≤ (N : Int) + (L : Int) := by omega
                            by_cases hcN : c = N
                            case pos =>
                              have HL0 := Lib.hid (show L = 0 by omega)
                              have HX0 := Lib.hid (show X = [] from List.eq_nil_of_length_eq_zero (by omega))
                              subst hcN
                              go_upto_region 24 with fail
                              go_cut [] from 102 to 111 (fun wx => ∃ ca n9 cc, (∀ j, wx.cell? ⟨P, j, none⟩ = (({ Pdu.read l with data := X } : Pdu.PD).cells (.slice ca n9 cc))[j]?) ∧ Owns wc.heap.size wx (.slice ca n9 cc) X ∧ Keeps (· < 0) W wx)
                              case first =>
                                have x26' : wc.cell? ⟨P, 26, none⟩ = some (.slice none 0 0) := HCP.out 26
                                have hbase : wc.heap.size ≤ wc.drew.heap.size := Nat.le_refl _
                                have HP3 := Lib.hid (show BytesAt wc.drew (.slice (some ⟨B, o, none⟩) L 0) X from by rw [HX0.out, HL0.out]; exact .inl ⟨rfl, _, _, rfl, fun h => by cases h⟩)
                                go_region_law (rw [if_pos (by rfl)]; refine wp_append_bytes (.tmp 103) (.tmp 109) rfl wc.heap.size (.slice none 0 0) [] rfl (Owns.nil _ _) _ X rfl HP3.out (by first | (simp; done) | (simp; omega)) hbase ?_; intro v9 w9 hown hgrow; rw [List.nil_append] at hown; obtain ⟨ca, cc, rfl, _⟩ := hown.bytes.form; have HOw := Lib.hid hown; have hkw : Keeps (fun _ => False) wc w9 := (Keeps.refl (fun _ => False) wc).drew.trans (Keeps.of_grown (F := fun _ => False) hgrow (fun k hk => by simp [Value.ownBlock] at hk)) (fun _ _ h => h); have HKw := Lib.hid hkw; have x26 : w9.cell? ⟨P, 26, none⟩ = some (.slice none 0 0) := (hkw.cell (p := ⟨P, 26, none⟩) (by simp; omega) (fun h => h)).trans x26'; have f26 : w9.frozen? ⟨P, 26, none⟩ = false := (hkw.frozen (p := ⟨P, 26, none⟩) (by simp; omega) (fun h => h)).trans (HFP.out 26); clear hown hgrow hkw)
                                all_goals
                                  go_wp2_with fail
                                  go_meet
                                  have hkA : Keeps (· = P) wc (w9.setCell ⟨P, 26, none⟩ (.slice ca L cc)) := Keeps.setCell (F := (· = P)) (HKw.out.mono (fun _ _ h => h.elim)) (p := ⟨P, 26, none⟩) (fun _ => rfl) _
                                  have HOw := Lib.hid (show Owns wc.heap.size w9 (.slice ca L cc) X from by have h := HOw.out; rw [hXl] at h; exact h)
                                  refine ⟨ca, _, cc, fun j => ?_, ((Keeps.refl (· = P) w9).setCell (p := ⟨P, 26, none⟩) (fun _ => rfl) _).owns HOw.out (fun k hk h => by have := HOw.out.from k hk; omega), HK.out.trans hkA (fun z h1 h2 => by omega)⟩
                                  rw [cells_data (Pdu.read l) (X) (.slice none 0 0) (.slice ca L cc) j]
                                  by_cases hj : j = 26
                                  · subst hj
                                    rw [if_pos rfl]
                                    exact World.cell?_setCell_same _ _ _ x26
                                  · rw [if_neg hj]
                                    exact (World.cell?_setCell_other _ _ _ _ (fun e => hj (by injection e with e1 e2; exact e2.symm))).trans ((HKw.out.cell (p := ⟨P, j, none⟩) (by simp; omega) (fun h => h)).trans (HCP.out j))
                              case rest =>
                                obtain ⟨ca, n9, cc, hcp, hoa, hka⟩ := hcut
                                obtain ⟨qq, hqq⟩ : ∃ qq : Pdu.PD, qq = { Pdu.read l with data := X } := ⟨_, rfl⟩
                                rw [← hqq] at HPa hcp
                                have HQQ := Lib.hid (show (X : List Nat) = qq.data from by rw [hqq])
                                have HCP := Lib.hid hcp
                                have HOA := Lib.hid hoa
                                have HK := Lib.hid hka
                                clear hqq hcp hoa hka HFP
                                have HRx := HRof wc HK.out
                                go_wp2_with (first | refine wpList_load_pd rfl 25 (.tmp 12) rfl P rfl (qq) (.slice ca n9 cc) _ HU2.out rfl HI2.out HCP.out ?_ | (refine wpList_store_pd rfl 25 (.tmp 8) (.tmp 112) rfl w.heap.size Pdu.pdZero (qq) (.slice none 0 0) (.slice ca n9 cc) rfl rfl HRx.out.1 HRx.out.2 rfl HI2.out ?_; intro W9 hc9 hf9 hk9 hs9; have HC9 := Lib.hid hc9; have HK9 := Lib.hid hk9; clear hc9 hf9 hk9))
                                (try simp only [Exit.inBlock, Exit.then])
                                refine bodyPost_ret (results_cell3 (cs := ((qq).cells (.slice ca n9 cc)).toList) rfl _ rfl (pd_range (qq) _ _ _ HC9.out) HU2.out rfl (by rw [HI2.out]; rfl)) rfl ?_
                                unfold RefPost
                                rw [HPa.out]
                                exact ⟨_, rfl, ((HOA.out.keepsO HK9.out (fun k hk h => by have := HOA.out.from k hk; omega)).mono (by omega)).cast HQQ.out, ((((Keeps.of_below (F := fun z => z < 0 ∨ z = w.heap.size) HBW.out).trans HK.out (fun _ _ h => .inl h)).trans HK9.out (fun z h1 h2 => .inr h2) : Keeps (fun z => z < 0 ∨ z = w.heap.size) w W9).below (Nat.le_refl _) (fun z h1 h2 => by omega))⟩
                            case neg =>
                              go_upto_region 24 with fail
                              go_cut [] from 102 to 111 (fun wx => ∃ ca n9 cc, (∀ j, wx.cell? ⟨P, j, none⟩ = (({ Pdu.read l with data := X } : Pdu.PD).cells (.slice ca n9 cc))[j]?) ∧ Owns wc.heap.size wx (.slice ca n9 cc) X ∧ Keeps (· < 0) W wx)
                              case first =>
                                have x26' : wc.cell? ⟨P, 26, none⟩ = some (.slice none 0 0) := HCP.out 26
                                have hbase : wc.heap.size ≤ wc.drew.heap.size := Nat.le_refl _
                                have HP3 := Lib.hid (show BytesAt wc.drew (.slice (some ⟨B, o + N, none⟩) L (c - N)) X from by have := (HDof _ (HK.out.drew)).out.part N (N + L) (c - N) (by omega) (by omega); rw [drop_take_part, Nat.add_sub_cancel_left, ← HX.out] at this; exact this)
                                go_region_law (rw [if_pos (by rfl)]; refine wp_append_bytes (.tmp 103) (.tmp 109) rfl wc.heap.size (.slice none 0 0) [] rfl (Owns.nil _ _) _ X rfl HP3.out (by first | (simp; done) | (simp; omega)) hbase ?_; intro v9 w9 hown hgrow; rw [List.nil_append] at hown; obtain ⟨ca, cc, rfl, _⟩ := hown.bytes.form; have HOw := Lib.hid hown; have hkw : Keeps (fun _ => False) wc w9 := (Keeps.refl (fun _ => False) wc).drew.trans (Keeps.of_grown (F := fun _ => False) hgrow (fun k hk => by simp [Value.ownBlock] at hk)) (fun _ _ h => h); have HKw := Lib.hid hkw; have x26 : w9.cell? ⟨P, 26, none⟩ = some (.slice none 0 0) := (hkw.cell (p := ⟨P, 26, none⟩) (by simp; omega) (fun h => h)).trans x26'; have f26 : w9.frozen? ⟨P, 26, none⟩ = false := (hkw.frozen (p := ⟨P, 26, none⟩) (by simp; omega) (fun h => h)).trans (HFP.out 26); clear hown hgrow hkw)
                                all_goals
                                  go_wp2_with fail
                                  go_meet
                                  have hkA : Keeps (· = P) wc (w9.setCell ⟨P, 26, none⟩ (.slice ca L cc)) := Keeps.setCell (F := (· = P)) (HKw.out.mono (fun _ _ h => h.elim)) (p := ⟨P, 26, none⟩) (fun _ => rfl) _
                                  have HOw := Lib.hid (show Owns wc.heap.size w9 (.slice ca L cc) X from by have h := HOw.out; rw [hXl] at h; exact h)
                                  refine ⟨ca, _, cc, fun j => ?_, ((Keeps.refl (· = P) w9).setCell (p := ⟨P, 26, none⟩) (fun _ => rfl) _).owns HOw.out (fun k hk h => by have := HOw.out.from k hk; omega), HK.out.trans hkA (fun z h1 h2 => by omega)⟩
                                  rw [cells_data (Pdu.read l) (X) (.slice none 0 0) (.slice ca L cc) j]
                                  by_cases hj : j = 26
                                  · subst hj
                                    rw [if_pos rfl]
                                    exact World.cell?_setCell_same _ _ _ x26
                                  · rw [if_neg hj]
                                    exact (World.cell?_setCell_other _ _ _ _ (fun e => hj (by injection e with e1 e2; exact e2.symm))).trans ((HKw.out.cell (p := ⟨P, j, none⟩) (by simp; omega) (fun h => h)).trans (HCP.out j))
                              case rest =>
                                obtain ⟨ca, n9, cc, hcp, hoa, hka⟩ := hcut
                                obtain ⟨qq, hqq⟩ : ∃ qq : Pdu.PD, qq = { Pdu.read l with data := X } := ⟨_, rfl⟩
                                rw [← hqq] at HPa hcp
                                have HQQ := Lib.hid (show (X : List Nat) = qq.data from by rw [hqq])
                                have HCP := Lib.hid hcp
                                have HOA := Lib.hid hoa
                                have HK := Lib.hid hka
                                clear hqq hcp hoa hka HFP
                                have HRx := HRof wc HK.out
                                go_wp2_with (first | refine wpList_load_pd rfl 25 (.tmp 12) rfl P rfl (qq) (.slice ca n9 cc) _ HU2.out rfl HI2.out HCP.out ?_ | (refine wpList_store_pd rfl 25 (.tmp 8) (.tmp 112) rfl w.heap.size Pdu.pdZero (qq) (.slice none 0 0) (.slice ca n9 cc) rfl rfl HRx.out.1 HRx.out.2 rfl HI2.out ?_; intro W9 hc9 hf9 hk9 hs9; have HC9 := Lib.hid hc9; have HK9 := Lib.hid hk9; clear hc9 hf9 hk9))
                                (try simp only [Exit.inBlock, Exit.then])
                                refine bodyPost_ret (results_cell3 (cs := ((qq).cells (.slice ca n9 cc)).toList) rfl _ rfl (pd_range (qq) _ _ _ HC9.out) HU2.out rfl (by rw [HI2.out]; rfl)) rfl ?_
                                unfold RefPost
                                rw [HPa.out]
                                exact ⟨_, rfl, ((HOA.out.keepsO HK9.out (fun k hk h => by have := HOA.out.from k hk; omega)).mono (by omega)).cast HQQ.out, ((((Keeps.of_below (F := fun z => z < 0 ∨ z = w.heap.size) HBW.out).trans HK.out (fun _ _ h => .inl h)).trans HK9.out (fun z h1 h2 => .inr h2) : Keeps (fun z => z < 0 ∨ z = w.heap.size) w W9).below (Nat.le_refl _) (fun z h1 h2 => by omega))⟩
end Go.Proofs.Ytodmpchnjakchaa
