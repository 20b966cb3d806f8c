/-
  PDUs: the program's Parse.
-/
import Derived.Test.YtodmpchnjakchaaPduEq
import Derived.Deep.DeepCutAuto
import Derived.Deep.CutRange
import Derived.Deep.QuietTactic
import Derived.BigQuiet
namespace Go.Proofs.Ytodmpchnjakchaa
open Go.RowKit

def ParsePost (l : List Nat) (head data : Bool) (most : Int) (tb : Nat) (w : World) (e : Ending) (w' : World) : Prop :=
  ∃ dv, e = .returned (.tuple #[.agg ((Pdu.parse l head data most).1.cells dv), .int .i64 ((Pdu.parse l head data most).2.1 : Nat), .int .i64 (Pdu.parse l head data most).2.2]) ∧
    Owns w.heap.size w' dv (Pdu.parse l head data most).1.data ∧ (∃ d', Table w' tb d') ∧ Keeps (· = tb) w w'

/-- What is left of parse behind the first four tests. -/
def parseTail (b : List Nat) (head data : Bool) (most : Int) : Pdu.PD × Nat × Int :=
  if most < (Pdu.numAt b 5 3 : Int) then (Pdu.read b, Pdu.off head, 42) else
  if b.length < Pdu.ends b head data then (Pdu.pdZero, 0, 0) else
  if (data && decide (0 < Pdu.numAt b 5 3)) = true ∧ (b.drop (Pdu.off head + Pdu.pad4 (Pdu.numAt b 5 3))).take 4 ≠ Pdu.sumS ((b.drop (Pdu.off head)).take (Pdu.pad4 (Pdu.numAt b 5 3))) then (Pdu.read b, Pdu.ends b head data, 41) else
  ({ Pdu.read b with data := (b.drop (Pdu.off head)).take (Pdu.numAt b 5 3) }, Pdu.ends b head data, 0)
theorem cells_data (p : Pdu.PD) (dl : List Nat) (dv dv' : Value) (j : Nat) : (({ p with data := dl } : Pdu.PD).cells dv')[j]? = if j = 26 then some dv' else (p.cells dv)[j]? := by
  have e : (({ p with data := dl } : Pdu.PD).cells dv') = (p.cells dv).setIfInBounds 26 dv' := rfl
  have s : 26 < (p.cells dv).size := by rw [cells_size]; omega
  rw [e]
  by_cases hj : j = 26
  · subst hj
    rw [if_pos rfl, Array.getElem?_setIfInBounds_self_of_lt s]
  · rw [if_neg hj, Array.getElem?_setIfInBounds_ne (fun e => hj e.symm)]
theorem Owns.cast {base : Nat} {w : World} {v : Value} {l l' : List Nat} (h : Owns base w v l) (e : l = l') : Owns base w v l' := e ▸ h
theorem off_cases (head : Bool) : (head = false ∧ Pdu.off head = 48) ∨ (head = true ∧ Pdu.off head = 52) := by cases head <;> simp [Pdu.off]
theorem drop_bytes {l : List Nat} (hB : Crc.Bytes l) (k : Nat) : Crc.Bytes (l.drop k) := fun b hb => hB b (List.mem_of_mem_drop hb)
theorem drop_take_part (l : List Nat) (a k : Nat) : (l.take (a + k)).drop a = (l.drop a).take k := by rw [List.drop_take, Nat.add_sub_cancel_left]
theorem three_bytes (a b c : Nat) (ha : a < 256) (hb : b < 256) (hc : c < 256) : bits .or .i64 (bits .or .i64 ((a : Int) * 65536) ((b : Int) * 256)) (c : Int) = ((256 * (256 * a + b) + c : Nat) : Int) := by
  have h1 : (a * 65536) ||| (b * 256) = a * 65536 + b * 256 := nat_join 16 (a * 65536) (b * 256) (by omega) (by omega)
  have e1 : bits .or .i64 ((a : Int) * 65536) ((b : Int) * 256) = ((a * 65536 + b * 256 : Nat) : Int) := by
    show IntKind.i64.wrap ((BitVec.ofInt 64 ((a : Int) * 65536) ||| BitVec.ofInt 64 ((b : Int) * 256)).toNat : Int) = _
    rw [BitVec.toNat_or, show ((a : Int) * 65536) = ((a * 65536 : Nat) : Int) by omega, show ((b : Int) * 256) = ((b * 256 : Nat) : Int) by omega, ofInt_u64 (a * 65536) (by omega), ofInt_u64 (b * 256) (by omega), h1, IntWalk.i64_in _ (by omega)]
  rw [e1, show ((a * 65536 + b * 256 : Nat) : Int) = ((256 * a + b : Nat) : Int) * 256 by omega]
  exact or_byte (256 * a + b) c (by omega) hc
theorem numAt_three (l : List Nat) (h : 8 ≤ l.length) : Pdu.numAt l 5 3 = 256 * (256 * l.getD 5 0 + l.getD 6 0) + l.getD 7 0 := by
  have e0 : Pdu.numAt l 5 0 = 0 := by simp [Pdu.numAt, Pdu.num]
  rw [numAt_succ l 5 2 (by omega), numAt_succ l 5 1 (by omega), numAt_succ l 5 0 (by omega), e0]
  simp

set_option maxRecDepth 100000 in
set_option maxHeartbeats 6400000 in
theorem parse_any (bv : Value) (bo : Option Addr) (n c : Nat) (l : List Nat) (head data : Bool) (most : Int) (tb : Nat) (d : Bool) (w : World) (hbv : bv = .slice bo n c) (h : BytesAt w (.slice bo n c) l) (hB : Crc.Bytes l) (hcap : n ≤ c) (hl : n ≤ 9223372036854775807) (hm : i64s most) (ht : Table w tb d) (ha : LiesIn (.slice bo n c) (· ≠ tb)) :
    Calls Try.prog 14 #[.pointer (some ⟨tb, 0, none⟩), bv, .bool head, .bool data, .int .i64 most] w (ParsePost l head data most tb w) := by
  subst hbv
  have hn := h.length
  have htl := block_lt ht.once
  simp only at htl
  obtain ⟨W, hW⟩ : ∃ W, W = w.alloc (.cells #[.int .i64 0, .bool false, .int .i64 0, .int .i64 0, .int .i64 0, .int .i64 0, .int .i64 0, .int .i64 0, .int .i64 0, .int .i64 0, .int .u8 0, .int .u8 0, .int .u8 0, .int .u8 0, .int .u8 0, .int .u8 0, .int .u8 0, .int .u8 0, .int .u8 0, .int .u8 0, .int .u8 0, .int .u8 0, .int .u8 0, .int .u8 0, .int .u8 0, .int .u8 0, .slice none 0 0] 32) := ⟨_, rfl⟩
  have hsW : W.heap.size = w.heap.size + 1 := by rw [hW]; simp
  have HBW := Lib.hid (show Below w.heap.size w W by rw [hW]; exact allocBelow w _)
  have HRof : ∀ V, Keeps (· = tb) W V → Hid ((∀ j, V.cell? ⟨w.heap.size, j, none⟩ = (Pdu.pdZero.cells (.slice none 0 0))[j]?) ∧ ∀ j, V.frozen? ⟨w.heap.size, j, none⟩ = false) := fun V hV => ⟨fun j => (hV.cell (p := ⟨w.heap.size, j, none⟩) (by simp; omega) (by simp; omega)).trans (by rw [hW]; exact World.cell?_alloc_new _ _ _ _),
    fun j => (hV.frozen (p := ⟨w.heap.size, j, none⟩) (by simp; omega) (by simp; omega)).trans (by rw [hW]; exact frozen_new _ _ _ _)⟩
  have HDof : ∀ V, Keeps (· = tb) W V → Hid (BytesAt V (.slice bo n c) l) := fun V hV => (h.later HBW.out).keeps hV ha
  have HTab0 := Lib.hid (ht.keeps (Keeps.of_below (F := fun _ => False) HBW.out) (fun h => h))
  have HA := Lib.hid ha
  have HByt := Lib.hid hB
  have HI2 := Lib.hid (show (Try.prog.info? 32).map (·.size) = some 27 by kernel_rfl)
  have HU2 := Lib.hid (Try.underlying32)
  have HM := Lib.hid hm
  have hm1 := hm.1
  have hm2 := hm.2
  clear ha ht h hB hm
  have HTab := Lib.hid (show ∃ d', Table W tb d' from ⟨d, HTab0.out⟩)
  have HK := Lib.hid (Keeps.refl (· = tb) W)
  by_cases hmost : 0 ≤ most ∧ most ≤ 1024
  case neg =>
    have HPa := Lib.hid (show Pdu.parse l head data most = (Pdu.pdZero, 0, 1) from by unfold Pdu.parse; rw [if_pos (by omega)])
    rcases Int.lt_or_le most 0 with hneg | hneg
    · have t1 : decide (most < 0) = true := by rw [decide_eq_true_eq]; exact hneg
      go_enter Try.func14, Try.ntmps14
      go_upto_region 1 with fail
      rw [← hW]
      clear hW hmost
      have HRx := HRof W HK.out
      go_wp2_with (first | (refine wpList_store_pd rfl 32 (.tmp 10) (.tmp 28) rfl w.heap.size Pdu.pdZero (Pdu.pdZero) (.slice none 0 0) (.slice none 0 0) rfl rfl HRx.out.1 HRx.out.2 rfl HI2.out ?_; intro W9 hc9 hf9 hk9 hs9; have HC9 := Lib.hid hc9; have HK9 := Lib.hid hk9; clear hc9 hf9 hk9))
      (try simp only [Exit.inBlock, Exit.then])
      refine bodyPost_ret (results_cell3 (cs := ((Pdu.pdZero).cells (.slice none 0 0)).toList) rfl _ rfl (pd_range (Pdu.pdZero) _ _ _ HC9.out) HU2.out rfl (by rw [HI2.out]; rfl)) rfl ?_
      unfold ParsePost
      rw [HPa.out]
      exact ⟨_, rfl, Owns.nil _ _, HTab.out.imp fun d' h => h.keeps HK9.out (by omega), ((Keeps.of_below (F := (· = tb)) HBW.out).trans HK.out (fun _ _ h => h)).trans HK9.out (fun z h1 h2 => by omega)⟩
    · have t1 : decide (most < 0) = false := by rw [decide_eq_false_iff_not]; omega
      have t2 : decide (1024 < most) = true := by rw [decide_eq_true_eq]; omega
      go_enter Try.func14, Try.ntmps14
      go_upto_region 1 with fail
      rw [← hW]
      clear hW hmost
      have HRx := HRof W HK.out
      go_wp2_with (first | (refine wpList_store_pd rfl 32 (.tmp 10) (.tmp 28) rfl w.heap.size Pdu.pdZero (Pdu.pdZero) (.slice none 0 0) (.slice none 0 0) rfl rfl HRx.out.1 HRx.out.2 rfl HI2.out ?_; intro W9 hc9 hf9 hk9 hs9; have HC9 := Lib.hid hc9; have HK9 := Lib.hid hk9; clear hc9 hf9 hk9))
      (try simp only [Exit.inBlock, Exit.then])
      refine bodyPost_ret (results_cell3 (cs := ((Pdu.pdZero).cells (.slice none 0 0)).toList) rfl _ rfl (pd_range (Pdu.pdZero) _ _ _ HC9.out) HU2.out rfl (by rw [HI2.out]; rfl)) rfl ?_
      unfold ParsePost
      rw [HPa.out]
      exact ⟨_, rfl, Owns.nil _ _, HTab.out.imp fun d' h => h.keeps HK9.out (by omega), ((Keeps.of_below (F := (· = tb)) HBW.out).trans HK.out (fun _ _ h => h)).trans HK9.out (fun z h1 h2 => by omega)⟩
  case pos =>
    obtain ⟨hmo0, hmo1⟩ := hmost
    have t1 : decide (most < 0) = false := by rw [decide_eq_false_iff_not]; omega
    have t2 : decide (1024 < most) = false := by rw [decide_eq_false_iff_not]; omega
    have HGo := Lib.hid (show ¬ (most < 0 ∨ 1024 < most) by omega)
    go_enter Try.func14, Try.ntmps14
    go_upto_region 1 with fail
    rw [← hW]
    clear hW
    go_upto_if 29 with fail
    go_cut [13] from 29 to 31 (fun s13 wx => s13 = .int .i64 (Pdu.off head : Nat) ∧ W = wx)
    case first =>
      cases head with
      | false =>
        go_wp2_with fail
        go_meet
        exact ⟨rfl, rfl⟩
      | true =>
        go_wp2_with fail
        go_meet
        exact ⟨rfl, rfl⟩
    case rest =>
      obtain ⟨rfl, hWc⟩ := hcut
      subst hWc
      have HN := Lib.hid (off_cases head)
      have HN' := Lib.hid (show Pdu.off head = Pdu.off head from rfl)
      obtain ⟨N, hN⟩ : ∃ N, N = Pdu.off head := ⟨_, rfl⟩
      rw [← hN]
      rw [← hN] at HN
      have hN48 : 48 ≤ N ∧ N ≤ 52 := by rcases HN.out with ⟨_, h⟩ | ⟨_, h⟩ <;> omega
      have HNE := Lib.hid hN; clear hN HN'
      by_cases hlen : n < N
      case pos =>
        have HPa := Lib.hid (show Pdu.parse l head data most = (Pdu.pdZero, 0, 0) from by unfold Pdu.parse; rw [if_neg HGo.out, if_pos (by rw [← HNE.out]; omega)])
        have tl : decide ((n : Int) < (N : Int)) = true := by rw [decide_eq_true_eq]; omega
        have HRx := HRof W HK.out
        go_wp2_with (first | (refine wpList_store_pd rfl 32 (.tmp 10) (.tmp 36) rfl w.heap.size Pdu.pdZero (Pdu.pdZero) (.slice none 0 0) (.slice none 0 0) rfl rfl HRx.out.1 HRx.out.2 rfl HI2.out ?_; intro W9 hc9 hf9 hk9 hs9; have HC9 := Lib.hid hc9; have HK9 := Lib.hid hk9; clear hc9 hf9 hk9))
        (try simp only [Exit.inBlock, Exit.then])
        refine bodyPost_ret (results_cell3 (cs := ((Pdu.pdZero).cells (.slice none 0 0)).toList) rfl _ rfl (pd_range (Pdu.pdZero) _ _ _ HC9.out) HU2.out rfl (by rw [HI2.out]; rfl)) rfl ?_
        unfold ParsePost
        rw [HPa.out]
        exact ⟨_, rfl, Owns.nil _ _, HTab.out.imp fun d' h => h.keeps HK9.out (by omega), ((Keeps.of_below (F := (· = tb)) HBW.out).trans HK.out (fun _ _ h => h)).trans HK9.out (fun z h1 h2 => by omega)⟩
      case neg =>
        have tl : decide ((n : Int) < (N : Int)) = false := by rw [decide_eq_false_iff_not]; omega
        have HLen := Lib.hid (show ¬ l.length < Pdu.off head by rw [← HNE.out]; omega)
        obtain ⟨B, o, rfl, hBl, _⟩ := (HDof W (Keeps.refl _ _)).out.at 0 (by omega)
        have hBtb : B ≠ tb := HA.out ⟨B, o, none⟩ n c rfl (by omega)
        have HCb : ∀ V, Keeps (· = tb) W V → Hid (∀ j, j < l.length → V.cell? ⟨B, o + j, none⟩ = some (.int .u8 (l.getD j 0 : Nat))) := fun V hV j hj => by
          obtain ⟨b', o', e, _, hc⟩ := (HDof V hV).out.at j hj
          injection e with e
          injection e with e1 e2
          subst e1; subst e2
          exact hc
        go_upto_region 8 with fail
        go_cut [48] from 37 to 48 (fun s48 wx => s48 = .bool (head && !decide ((l.drop 48).take 4 = Pdu.sumS (l.take 48))) ∧ (∃ d', Table wx tb d') ∧ Keeps (· = tb) W wx)
        case first =>
          cases head with
          | false =>
            go_quiet (fail)
            go_wp2_with fail
            go_meet
            exact ⟨rfl, HTab.out.imp fun d' h => h.keeps ((Keeps.refl (fun _ => False) _).drewN _) (fun h => h), HK.out.drewN _⟩
          | true =>
            obtain rfl : N = 52 := HNE.out
            have hc48 : ¬ c = 48 := by omega
            have hi52 : (52 : Int) ≤ (c : Int) := by omega
            have hi48 : (48 : Int) ≤ (c : Int) := by omega
            have hk0 : Keeps (· = tb) W W.drew := HK.out.drew
            have HP1 := Lib.hid (show BytesAt W.drew (.slice (some ⟨B, o, none⟩) 48 c) (l.take 48) from by have := (HDof _ hk0).out.part 0 48 c (by omega) (by omega); simpa using this)
            have HT1 := Lib.hid (HTab0.out.keeps (Keeps.refl (fun _ => False) W).drew (fun h => h))
            go_region_held3 (fun _ => True) (trivial)
              (first
                | (go_at_call_of 19 (Value.pointer (some ⟨tb, 0, none⟩)); refine (summed_nil tb d _ (l.take 48) _ HT1.out HP1.out (take_bytes HByt.out 48) (by simp; omega) (fun a n c e hn => by injection e with e1 e2 e3; injection e1 with e1; rw [← e1]; exact hBtb)).mono ?_; rintro _ V1 ⟨v1, rfl, ho1, ht1, hk1⟩; have HO1 := Lib.hid ho1; have HT2 := Lib.hid ht1; have hk2 : Keeps (· = tb) W V1 := hk0.trans hk1 (fun _ _ h => h); clear ho1 ht1 hk1)
                | (go_at_call_of 25 v1; refine (equal_any _ v1 ((l.drop 48).take 4) (Pdu.sumS (l.take 48)) _ (by have := (HDof _ hk2).out.part 48 (48 + 4) (c - 48) (by omega) (by omega); rw [drop_take_part] at this; simpa using this) HO1.out.bytes (by simp; omega) (by rw [Pdu.sumS_length]; omega) (take_bytes (drop_bytes HByt.out 48) 4) (Pdu.sumS_bytes _)).mono ?_; rintro _ V2 ⟨rfl, rfl⟩))
            all_goals
              go_wp2_with fail
              go_meet
              exact ⟨rfl, ⟨true, HT2.out⟩, hk2⟩
        case rest =>
          obtain ⟨rfl, htab, hk⟩ := hcut
          clear HTab HK HTab0
          have HTab := Lib.hid htab
          have HK := Lib.hid hk
          clear htab hk
          by_cases hsum : head = true ∧ (l.drop 48).take 4 ≠ Pdu.sumS (l.take 48)
          case pos =>
            have HPa := Lib.hid (show Pdu.parse l head data most = (Pdu.pdZero, N, 13) from by unfold Pdu.parse; rw [if_neg HGo.out, if_neg HLen.out, if_pos hsum, HNE.out])
            have hb1 : (head && !decide ((l.drop 48).take 4 = Pdu.sumS (l.take 48))) = true := by rw [hsum.1, decide_eq_false hsum.2]; rfl
            rw [hb1]
            clear hb1 hsum
            have HRx := HRof wc HK.out
            go_wp2_with (first | (refine wpList_store_pd rfl 32 (.tmp 10) (.tmp 49) rfl w.heap.size Pdu.pdZero (Pdu.pdZero) (.slice none 0 0) (.slice none 0 0) rfl rfl HRx.out.1 HRx.out.2 rfl HI2.out ?_; intro W9 hc9 hf9 hk9 hs9; have HC9 := Lib.hid hc9; have HK9 := Lib.hid hk9; clear hc9 hf9 hk9))
            (try simp only [Exit.inBlock, Exit.then])
            refine bodyPost_ret (results_cell3 (cs := ((Pdu.pdZero).cells (.slice none 0 0)).toList) rfl _ rfl (pd_range (Pdu.pdZero) _ _ _ HC9.out) HU2.out rfl (by rw [HI2.out]; rfl)) rfl ?_
            unfold ParsePost
            rw [HPa.out]
            exact ⟨_, rfl, Owns.nil _ _, HTab.out.imp fun d' h => h.keeps HK9.out (by omega), ((Keeps.of_below (F := (· = tb)) HBW.out).trans HK.out (fun _ _ h => h)).trans HK9.out (fun z h1 h2 => by omega)⟩
          case neg =>
            have hb1 : (head && !decide ((l.drop 48).take 4 = Pdu.sumS (l.take 48))) = false := by
              by_cases h1 : head = true
              · rw [h1, decide_eq_true (Decidable.of_not_not (fun h2 => hsum ⟨h1, h2⟩))]; rfl
              · rw [Bool.not_eq_true] at h1; rw [h1]; rfl
            rw [hb1]
            have HNS := Lib.hid hsum
            clear hb1 hsum
            go_wp2_with fail
            refine (read_any B o n c l wc (HDof wc HK.out).out HByt.out (by omega) hcap).mono ?_
            rintro e V ⟨rfl, hbV⟩
            have HKV := Lib.hid (HK.out.trans (Keeps.of_below (F := fun _ => False) hbV) (fun _ _ h => h.elim))
            have HTV := Lib.hid (show ∃ d', Table V tb d' from HTab.out.imp fun d' h => h.keeps (Keeps.of_below (F := fun _ => False) hbV) (fun h => h))
            have hVs : W.heap.size ≤ V.heap.size := HKV.out.size
            clear hbV HTab HK
            obtain ⟨P, hP⟩ : ∃ P, P = V.heap.size := ⟨_, rfl⟩
            have HP := Lib.hid hP
            go_upto_region 11 with (refine wpList_store_pd rfl 32 (.tmp 14) (.tmp 52) rfl V.heap.size Pdu.pdZero (Pdu.read l) (.slice none 0 0) (.slice none 0 0) rfl rfl (fun j => show (V.alloc (.cells #[.int .i64 0, .bool false, .int .i64 0, .int .i64 0, .int .i64 0, .int .i64 0, .int .i64 0, .int .i64 0, .int .i64 0, .int .i64 0, .int .u8 0, .int .u8 0, .int .u8 0, .int .u8 0, .int .u8 0, .int .u8 0, .int .u8 0, .int .u8 0, .int .u8 0, .int .u8 0, .int .u8 0, .int .u8 0, .int .u8 0, .int .u8 0, .int .u8 0, .int .u8 0, .slice none 0 0] 32)).cell? _ = _ from World.cell?_alloc_new _ _ _ _) (fun j => frozen_new _ _ _ _) rfl HI2.out ?_; intro W6 hc6 hf6 hk6 hs6; have HC6 := Lib.hid hc6; have HF6 := Lib.hid hf6; have HK6 := Lib.hid hk6; clear hc6 hf6 hk6)
            rw [← hP]
            rw [← hP] at HC6 HF6 HK6
            have hPW : W.heap.size ≤ P := by omega
            have hs6 : W6.heap.size = P + 1 := by rw [hs6, hP]; simp
            clear hP
            have hal : Keeps (fun _ => False) V (V.alloc (.cells #[.int .i64 0, .bool false, .int .i64 0, .int .i64 0, .int .i64 0, .int .i64 0, .int .i64 0, .int .i64 0, .int .i64 0, .int .i64 0, .int .u8 0, .int .u8 0, .int .u8 0, .int .u8 0, .int .u8 0, .int .u8 0, .int .u8 0, .int .u8 0, .int .u8 0, .int .u8 0, .int .u8 0, .int .u8 0, .int .u8 0, .int .u8 0, .int .u8 0, .int .u8 0, .slice none 0 0] 32)) := (Keeps.refl _ V).alloc _
            have HK := Lib.hid (show Keeps (· = tb) W W6 from (HKV.out.trans hal (fun _ _ h => h.elim)).trans HK6.out (fun z h1 h2 => by omega))
            have HTab := Lib.hid (show ∃ d', Table W6 tb d' from HTV.out.imp fun d' h => (h.keeps hal (fun h => h)).keeps HK6.out (by omega))
            clear HKV HTV HK6 hal
            have HC0 := HCb W6 HK.out
            have hi0 : (0 : Int) < (n : Int) := by omega
            have hi4 : (4 : Int) < (n : Int) := by omega
            have xb0 : W6.cell? ⟨B, o, none⟩ = some (.int .u8 (l.getD 0 0 : Nat)) := HC0.out 0 (by omega)
            have xb4 : W6.cell? ⟨B, o + 4, none⟩ = some (.int .u8 (l.getD 4 0 : Nat)) := HC0.out 4 (by omega)
            have hbb0 : l.getD 0 0 < 256 := getD_byte HByt.out 0
            have hbb4 : l.getD 4 0 < 256 := getD_byte HByt.out 4
            by_cases h128 : 128 ≤ l.getD 0 0
            case pos =>
              have HPa := Lib.hid (show Pdu.parse l head data most = (Pdu.read l, N, 40) from by unfold Pdu.parse; rw [if_neg HGo.out, if_neg HLen.out, if_neg HNS.out, if_pos (.inl h128), HNE.out])
              generalize l.getD 0 0 = b0 at *
              generalize l.getD 4 0 = b4 at *
              have k0 : decide ((128 : Int) ≤ (b0 : Int)) = true := by rw [decide_eq_true_eq]; omega
              have HCP := HC6
              have HRx := HRof W6 HK.out
              go_wp2_with (first | refine wpList_load_pd rfl 32 (.tmp 14) rfl P rfl (Pdu.read l) (.slice none 0 0) _ HU2.out rfl HI2.out HCP.out ?_ | (refine wpList_store_pd rfl 32 (.tmp 10) (.tmp 63) rfl w.heap.size Pdu.pdZero (Pdu.read l) (.slice none 0 0) (.slice none 0 0) rfl rfl HRx.out.1 HRx.out.2 rfl HI2.out ?_; intro W9 hc9 hf9 hk9 hs9; have HC9 := Lib.hid hc9; have HK9 := Lib.hid hk9; clear hc9 hf9 hk9))
              (try simp only [Exit.inBlock, Exit.then])
              refine bodyPost_ret (results_cell3 (cs := ((Pdu.read l).cells (.slice none 0 0)).toList) rfl _ rfl (pd_range (Pdu.read l) _ _ _ HC9.out) HU2.out rfl (by rw [HI2.out]; rfl)) rfl ?_
              unfold ParsePost
              rw [HPa.out]
              exact ⟨_, rfl, Owns.nil _ _, HTab.out.imp fun d' h => h.keeps HK9.out (by omega), ((Keeps.of_below (F := (· = tb)) HBW.out).trans HK.out (fun _ _ h => h)).trans HK9.out (fun z h1 h2 => by omega)⟩
            case neg =>
              by_cases h4 : l.getD 4 0 = 0
              case neg =>
                have HPa := Lib.hid (show Pdu.parse l head data most = (Pdu.read l, N, 40) from by unfold Pdu.parse; rw [if_neg HGo.out, if_neg HLen.out, if_neg HNS.out, if_pos (.inr h4), HNE.out])
                generalize l.getD 0 0 = b0 at *
                generalize l.getD 4 0 = b4 at *
                have k0 : decide ((128 : Int) ≤ (b0 : Int)) = false := by rw [decide_eq_false_iff_not]; omega
                have k4 : ((b4 : Int) != 0) = true := by rw [bne_iff_ne]; omega
                have HCP := HC6
                have HRx := HRof W6 HK.out
                go_wp2_with (first | refine wpList_load_pd rfl 32 (.tmp 14) rfl P rfl (Pdu.read l) (.slice none 0 0) _ HU2.out rfl HI2.out HCP.out ?_ | (refine wpList_store_pd rfl 32 (.tmp 10) (.tmp 63) rfl w.heap.size Pdu.pdZero (Pdu.read l) (.slice none 0 0) (.slice none 0 0) rfl rfl HRx.out.1 HRx.out.2 rfl HI2.out ?_; intro W9 hc9 hf9 hk9 hs9; have HC9 := Lib.hid hc9; have HK9 := Lib.hid hk9; clear hc9 hf9 hk9))
                (try simp only [Exit.inBlock, Exit.then])
                refine bodyPost_ret (results_cell3 (cs := ((Pdu.read l).cells (.slice none 0 0)).toList) rfl _ rfl (pd_range (Pdu.read l) _ _ _ HC9.out) HU2.out rfl (by rw [HI2.out]; rfl)) rfl ?_
                unfold ParsePost
                rw [HPa.out]
                exact ⟨_, rfl, Owns.nil _ _, HTab.out.imp fun d' h => h.keeps HK9.out (by omega), ((Keeps.of_below (F := (· = tb)) HBW.out).trans HK.out (fun _ _ h => h)).trans HK9.out (fun z h1 h2 => by omega)⟩
              case pos =>
                have HPar := Lib.hid (show Pdu.parse l head data most = parseTail l head data most from by unfold Pdu.parse parseTail; rw [if_neg HGo.out, if_neg HLen.out, if_neg HNS.out, if_neg (by omega)])
                have hi5 : (5 : Int) < (n : Int) := by omega
                have hi6 : (6 : Int) < (n : Int) := by omega
                have hi7 : (7 : Int) < (n : Int) := by omega
                have xb5 : W6.cell? ⟨B, o + 5, none⟩ = some (.int .u8 (l.getD 5 0 : Nat)) := HC0.out 5 (by omega)
                have xb6 : W6.cell? ⟨B, o + 6, none⟩ = some (.int .u8 (l.getD 6 0 : Nat)) := HC0.out 6 (by omega)
                have xb7 : W6.cell? ⟨B, o + 7, none⟩ = some (.int .u8 (l.getD 7 0 : Nat)) := HC0.out 7 (by omega)
                have hbb5 : l.getD 5 0 < 256 := getD_byte HByt.out 5
                have hbb6 : l.getD 6 0 < 256 := getD_byte HByt.out 6
                have hbb7 : l.getD 7 0 < 256 := getD_byte HByt.out 7
                obtain ⟨L, hL⟩ : ∃ L, L = Pdu.numAt l 5 3 := ⟨_, rfl⟩
                have hor : bits .or .i64 (bits .or .i64 ((l.getD 5 0 : Nat) * 65536 : Int) ((l.getD 6 0 : Nat) * 256 : Int)) (l.getD 7 0 : Nat) = (L : Int) := by
                  rw [hL, numAt_three l (by omega)]
                  exact three_bytes _ _ _ hbb5 hbb6 hbb7
                have HL := Lib.hid hL
                clear hL
                generalize l.getD 0 0 = b0 at *
                generalize l.getD 4 0 = b4 at *
                generalize l.getD 5 0 = b5 at *
                generalize l.getD 6 0 = b6 at *
                generalize l.getD 7 0 = b7 at *
                have k0 : decide ((128 : Int) ≤ (b0 : Int)) = false := by rw [decide_eq_false_iff_not]; omega
                have k4 : ((b4 : Int) != 0) = false := by rw [bne_eq_false_iff_eq]; omega
                go_upto_region 13 with fail
                go_quiet (fail)
                obtain ⟨W7, hW7⟩ : ∃ W7, W7 = W6.drewN nq := ⟨_, rfl⟩
                rw [← hW7]
                have HCP := Lib.hid (show ∀ j, W7.cell? ⟨P, j, none⟩ = ((Pdu.read l).cells (.slice none 0 0))[j]? from fun j => by rw [hW7, drewN_eq]; exact HC6.out j)
                have HFP := Lib.hid (show ∀ j, W7.frozen? ⟨P, j, none⟩ = false from fun j => by rw [hW7, drewN_eq]; exact HF6.out j)
                have HK7 := Lib.hid (show Keeps (· = tb) W W7 from by rw [hW7]; exact HK.out.drewN _)
                have HTab7 := Lib.hid (show ∃ d', Table W7 tb d' from by rw [hW7]; exact HTab.out.imp fun d' h => h.keeps ((Keeps.refl (fun _ => False) _).drewN _) (fun h => h))
                have hs7 : W7.heap.size = P + 1 := by rw [hW7, drewN_eq]; exact hs6
                clear hW7 HC6 HF6 HK HTab HC0 xb0 xb4 xb5 xb6 xb7 hs6
                have HK := HK7
                have HTab := HTab7
                clear HK7 HTab7
                by_cases hLm : most < (L : Int)
                case pos =>
                  have HPa := Lib.hid (show Pdu.parse l head data most = (Pdu.read l, N, 42) from by rw [HPar.out]; unfold parseTail; rw [if_pos (by rw [← HL.out]; exact hLm), HNE.out])
                  have km : decide (most < (L : Int)) = true := by rw [decide_eq_true_eq]; exact hLm
                  have HRx := HRof W7 HK.out
                  go_wp2_with (first | refine wpList_load_pd rfl 32 (.tmp 14) rfl P rfl (Pdu.read l) (.slice none 0 0) _ HU2.out rfl HI2.out HCP.out ?_ | (refine wpList_store_pd rfl 32 (.tmp 10) (.tmp 84) rfl w.heap.size Pdu.pdZero (Pdu.read l) (.slice none 0 0) (.slice none 0 0) rfl rfl HRx.out.1 HRx.out.2 rfl HI2.out ?_; intro W9 hc9 hf9 hk9 hs9; have HC9 := Lib.hid hc9; have HK9 := Lib.hid hk9; clear hc9 hf9 hk9))
                  (try simp only [Exit.inBlock, Exit.then])
                  refine bodyPost_ret (results_cell3 (cs := ((Pdu.read l).cells (.slice none 0 0)).toList) rfl _ rfl (pd_range (Pdu.read l) _ _ _ HC9.out) HU2.out rfl (by rw [HI2.out]; rfl)) rfl ?_
                  unfold ParsePost
                  rw [HPa.out]
                  exact ⟨_, rfl, Owns.nil _ _, HTab.out.imp fun d' h => h.keeps HK9.out (by omega), ((Keeps.of_below (F := (· = tb)) HBW.out).trans HK.out (fun _ _ h => h)).trans HK9.out (fun z h1 h2 => by omega)⟩
                case neg =>
                  have HLm := Lib.hid (show ¬ most < (Pdu.numAt l 5 3 : Int) by rw [← HL.out]; exact hLm)
                  have km : decide (most < (L : Int)) = false := by rw [decide_eq_false_iff_not]; exact hLm
                  have hq : Pdu.pad4 L ≤ L + 3 ∧ L ≤ Pdu.pad4 L := by unfold Pdu.pad4; omega
                  have HW := Lib.hid (whole_any L W7 (by omega))
                  obtain ⟨q, hqe⟩ : ∃ q, q = Pdu.pad4 L := ⟨_, rfl⟩
                  rw [← hqe] at hq HW
                  have HE := Lib.hid (show Pdu.ends l head data = N + q + (if (data && decide (0 < L)) = true then 4 else 0) from by unfold Pdu.ends; rw [HNE.out, hqe, HL.out])
                  have HQ := Lib.hid hqe
                  have hL1024 : L ≤ 1024 := by omega
                  clear hqe hLm
                  go_wp2_with fail
                  refine HW.out.mono ?_
                  rintro e V8 ⟨rfl, rfl⟩
                  clear HW
                  go_upto_region 18 with fail
                  go_cut [95] from 91 to 95 (fun s95 wx => s95 = .bool (data && decide (0 < L)) ∧ W7 = wx)
                  case first =>
                    cases data with
                    | false =>
                      go_wp2_with fail
                      go_meet
                      exact ⟨rfl, rfl⟩
                    | true =>
                      by_cases hL0 : 0 < L
                      · have kl : decide ((0 : Int) < (L : Int)) = true := by rw [decide_eq_true_eq]; omega
                        go_wp2_with fail
                        go_meet
                        exact ⟨by rw [decide_eq_true hL0]; rfl, rfl⟩
                      · have kl : decide ((0 : Int) < (L : Int)) = false := by rw [decide_eq_false_iff_not]; omega
                        go_wp2_with fail
                        go_meet
                        exact ⟨by rw [decide_eq_false hL0]; rfl, rfl⟩
                  case rest =>
                    obtain ⟨rfl, hWc⟩ := hcut
                    subst hWc
                    obtain ⟨dd, hdd⟩ : ∃ dd, dd = (data && decide (0 < L)) := ⟨_, rfl⟩
                    rw [← hdd]
                    rw [← hdd] at HE
                    have HDD := Lib.hid hdd; clear hdd
                    obtain ⟨E, hE⟩ : ∃ E, E = Pdu.ends l head data := ⟨_, rfl⟩
                    rw [← hE] at HE
                    have HEE := Lib.hid hE; clear hE
                    have hEb : N + q ≤ E ∧ E ≤ N + q + 4 := by have := HE.out; cases dd <;> simp at this <;> omega
                    go_upto_if 95 with fail
                    go_cut [16] from 96 to 97 (fun s16 wx => s16 = .int .i64 (E : Int) ∧ W7 = wx)
                    case first =>
                      cases dd with
                      | false =>
                        have he : ((N : Int) + (q : Int)) = (E : Int) := by have := HE.out; simp at this; omega
                        go_wp2_with fail
                        go_meet
                        exact ⟨by rw [← he], rfl⟩
                      | true =>
                        have he : ((N : Int) + (q : Int)) + 4 = (E : Int) := by have := HE.out; simp at this; omega
                        go_wp2_with fail
                        go_meet
                        exact ⟨by rw [← he], rfl⟩
                    case rest =>
                      obtain ⟨rfl, hWc⟩ := hcut
                      subst hWc
                      by_cases hEn : n < E
                      case pos =>
                        have HPa := Lib.hid (show Pdu.parse l head data most = (Pdu.pdZero, 0, 0) from by rw [HPar.out]; unfold parseTail; rw [if_neg (by have := HLm.out; omega), if_pos (by rw [← HEE.out]; omega)])
                        have ke : decide ((n : Int) < (E : Int)) = true := by rw [decide_eq_true_eq]; omega
                        have HRx := HRof W7 HK.out
                        go_wp2_with (first | (refine wpList_store_pd rfl 32 (.tmp 10) (.tmp 102) rfl w.heap.size Pdu.pdZero (Pdu.pdZero) (.slice none 0 0) (.slice none 0 0) rfl rfl HRx.out.1 HRx.out.2 rfl HI2.out ?_; intro W9 hc9 hf9 hk9 hs9; have HC9 := Lib.hid hc9; have HK9 := Lib.hid hk9; clear hc9 hf9 hk9))
                        (try simp only [Exit.inBlock, Exit.then])
                        refine bodyPost_ret (results_cell3 (cs := ((Pdu.pdZero).cells (.slice none 0 0)).toList) rfl _ rfl (pd_range (Pdu.pdZero) _ _ _ HC9.out) HU2.out rfl (by rw [HI2.out]; rfl)) rfl ?_
                        unfold ParsePost
                        rw [HPa.out]
                        exact ⟨_, rfl, Owns.nil _ _, HTab.out.imp fun d' h => h.keeps HK9.out (by omega), ((Keeps.of_below (F := (· = tb)) HBW.out).trans HK.out (fun _ _ h => h)).trans HK9.out (fun z h1 h2 => by omega)⟩
                      case neg =>
                        have HEn := Lib.hid (show ¬ l.length < Pdu.ends l head data by rw [← HEE.out]; omega)
                        have ke : decide ((n : Int) < (E : Int)) = false := by rw [decide_eq_false_iff_not]; omega
                        go_upto_region 22 with fail
                        go_cut [119] from 103 to 119 (fun s119 wx => s119 = .bool (dd && !decide ((l.drop (N + q)).take 4 = Pdu.sumS ((l.drop N).take q))) ∧ (∃ d', Table wx tb d') ∧ Keeps (fun z => z = tb) W7 wx)
                        case first =>
                          cases dd with
                          | false =>
                            have kd : decide ((N : Int) + (q : Int) < (E : Int)) = false := by have := HE.out; simp at this; rw [decide_eq_false_iff_not]; omega
                            go_quiet (fail)
                            go_wp2_with fail
                            go_meet
                            exact ⟨rfl, HTab.out.imp fun d' h => h.keeps ((Keeps.refl (fun _ => False) _).drewN _) (fun h => h), (Keeps.refl _ _).drewN _⟩
                          | true =>
                            have HE4 := Lib.hid (show E = N + q + 4 from by have := HE.out; simpa using this)
                            have kd : decide ((N : Int) + (q : Int) < (E : Int)) = true := by have := HE4.out; rw [decide_eq_true_eq]; omega
                            have hcN : ¬ c = N := by have := HE4.out; omega
                            have hcS : ¬ c = N + q := by have := HE4.out; omega
                            have hNE : N + q ≤ E := by omega
                            have h22a : (N : Int) + (q : Int) ≤ (E : Int) := by omega
                            have h22b : (E : Int) ≤ (c : Int) := by omega
                            have h22c : (N : Int) ≤ (N : Int) + (q : Int) := by omega
                            have h22d : (N : Int) + (q : Int) ≤ (c : Int) := by omega
                            have h22e : (0 : Int) ≤ (N : Int) + (q : Int) := by omega
                            have hk0 : Keeps (· = tb) W7 W7.drew := (Keeps.refl _ _).drew
                            obtain ⟨d1, hd1⟩ := HTab.out
                            have HP1 := Lib.hid (show BytesAt W7.drew (.slice (some ⟨B, o + N, none⟩) q (c - N)) ((l.drop N).take q) from by have := (HDof _ (HK.out.trans hk0 (fun _ _ h => h))).out.part N (N + q) (c - N) (by omega) (by omega); rw [drop_take_part, Nat.add_sub_cancel_left] at this; exact this)
                            have HT1 := Lib.hid (hd1.keeps (Keeps.refl (fun _ => False) W7).drew (fun h => h))
                            clear hd1
                            go_region_held3 (fun _ => True) (trivial)
                              (first
                                | (go_at_call_of 19 (Value.pointer (some ⟨tb, 0, none⟩)); refine (summed_nil tb d1 _ ((l.drop N).take q) _ HT1.out (by rw [show ((N : Int) + (q : Int)).toNat - N = q by omega]; exact HP1.out) (take_bytes (drop_bytes HByt.out N) q) (by simp; omega) (fun a n c e hn => by injection e with e1 e2 e3; injection e1 with e1; rw [← e1]; exact hBtb)).mono ?_; rintro _ V1 ⟨v1, rfl, ho1, ht1, hk1⟩; have HO1 := Lib.hid ho1; have HT2 := Lib.hid ht1; have hk2 : Keeps (· = tb) W7 V1 := hk0.trans hk1 (fun _ _ h => h); clear ho1 ht1 hk1)
                                | (go_at_call_of 25 v1; refine (equal_any _ v1 ((l.drop (N + q)).take 4) (Pdu.sumS ((l.drop N).take q)) _ (by have := (HDof _ (HK.out.trans hk2 (fun _ _ h => h))).out.part (N + q) (N + q + 4) (c - (N + q)) (by omega) (by have := HE4.out; omega); rw [drop_take_part, Nat.add_sub_cancel_left] at this; rw [show ((N : Int) + (q : Int)).toNat = N + q by omega, show E - (N + q) = 4 by have := HE4.out; omega]; exact this) HO1.out.bytes (by have := HE4.out; simp; omega) (by rw [Pdu.sumS_length]; omega) (take_bytes (drop_bytes HByt.out _) 4) (Pdu.sumS_bytes _)).mono ?_; rintro _ V2 ⟨rfl, rfl⟩))
                            all_goals
                              go_wp2_with fail
                              go_meet
                              exact ⟨rfl, ⟨true, HT2.out⟩, hk2⟩
                        case rest =>
                          obtain ⟨rfl, htab, hk⟩ := hcut
                          have HK9 := Lib.hid hk
                          have HK := Lib.hid (HK.out.trans hk (fun _ _ h => h))
                          have HTab := Lib.hid htab
                          have hsw : P + 1 ≤ wc.heap.size := by have := hk.size; omega
                          have HCP := Lib.hid (show ∀ j, wc.cell? ⟨P, j, none⟩ = ((Pdu.read l).cells (.slice none 0 0))[j]? from fun j => (HK9.out.cell (p := ⟨P, j, none⟩) (by simp; omega) (by simp; omega)).trans (HCP.out j))
                          have HFP := Lib.hid (show ∀ j, wc.frozen? ⟨P, j, none⟩ = false from fun j => (HK9.out.frozen (p := ⟨P, j, none⟩) (by simp; omega) (by simp; omega)).trans (HFP.out j))
                          clear htab hk HK9
                          by_cases hdig : dd = true ∧ (l.drop (N + q)).take 4 ≠ Pdu.sumS ((l.drop N).take q)
                          case pos =>
                            have HPa := Lib.hid (show Pdu.parse l head data most = (Pdu.read l, E, 41) from by
                              rw [HPar.out]; unfold parseTail
                              rw [if_neg (by have := HLm.out; omega), if_neg (by have := HEn.out; omega), ← HL.out, ← HDD.out, ← HQ.out, ← HNE.out, if_pos hdig, HEE.out])
                            have hb1 : (dd && !decide ((l.drop (N + q)).take 4 = Pdu.sumS ((l.drop N).take q))) = true := by rw [hdig.1, decide_eq_false hdig.2]; rfl
                            rw [hb1]
                            clear hb1 hdig
                            have HRx := HRof wc HK.out
                            go_wp2_with (first | refine wpList_load_pd rfl 32 (.tmp 14) rfl P rfl (Pdu.read l) (.slice none 0 0) _ HU2.out rfl HI2.out HCP.out ?_ | (refine wpList_store_pd rfl 32 (.tmp 10) (.tmp 120) rfl w.heap.size Pdu.pdZero (Pdu.read l) (.slice none 0 0) (.slice none 0 0) rfl rfl HRx.out.1 HRx.out.2 rfl HI2.out ?_; intro W9 hc9 hf9 hk9 hs9; have HC9 := Lib.hid hc9; have HK9 := Lib.hid hk9; clear hc9 hf9 hk9))
                            (try simp only [Exit.inBlock, Exit.then])
                            refine bodyPost_ret (results_cell3 (cs := ((Pdu.read l).cells (.slice none 0 0)).toList) rfl _ rfl (pd_range (Pdu.read l) _ _ _ HC9.out) HU2.out rfl (by rw [HI2.out]; rfl)) rfl ?_
                            unfold ParsePost
                            rw [HPa.out]
                            exact ⟨_, rfl, Owns.nil _ _, HTab.out.imp fun d' h => h.keeps HK9.out (by omega), ((Keeps.of_below (F := (· = tb)) HBW.out).trans HK.out (fun _ _ h => h)).trans HK9.out (fun z h1 h2 => by omega)⟩
                          case neg =>
                            have HPa := Lib.hid (show Pdu.parse l head data most = ({ Pdu.read l with data := (l.drop N).take L }, E, 0) from by
                              rw [HPar.out]; unfold parseTail
                              rw [if_neg (by have := HLm.out; omega), if_neg (by have := HEn.out; omega), ← HL.out, ← HDD.out, ← HQ.out, ← HNE.out, if_neg hdig, HEE.out])
                            have hb1 : (dd && !decide ((l.drop (N + q)).take 4 = Pdu.sumS ((l.drop N).take q))) = false := by
                              by_cases h1 : dd = true
                              · rw [h1, decide_eq_true (Decidable.of_not_not (fun h2 => hdig ⟨h1, h2⟩))]; rfl
                              · rw [Bool.not_eq_true] at h1; rw [h1]; rfl
                            rw [hb1]
                            clear hb1 hdig
                            obtain ⟨X, hX⟩ : ∃ X, X = (l.drop N).take L := ⟨_, rfl⟩
                            rw [← hX] at HPa
                            have hXl : X.length = L := by rw [hX]; simp; omega
                            have HX := Lib.hid hX
                            clear hX
                            by_cases hcN : c = N
                            case pos =>
                              obtain rfl : L = 0 := by omega
                              obtain rfl : X = [] := List.eq_nil_of_length_eq_zero hXl
                              clear hXl
                              go_wp2_with fail
                              refine (clone_any _ [] _ (.inl ⟨rfl, _, _, rfl, fun h => by cases h⟩) (by simp)).mono ?_
                              rintro e V9 ⟨v9, rfl, hown, hb9⟩
                              obtain ⟨ca, cc, rfl, _⟩ := hown.bytes.form
                              have hs9 := hb9.size
                              have HOw := Lib.hid hown
                              have HB9 := Lib.hid hb9
                              obtain ⟨n9, hn9⟩ : ∃ n9, n9 = ([] : List Nat).length := ⟨_, rfl⟩
                              rw [← hn9]
                              rw [← hn9] at HOw
                              clear hn9 hown hb9
                              have x26 : V9.cell? ⟨P, 26, none⟩ = some (.slice none 0 0) := (HB9.out.cell (p := ⟨P, 26, none⟩) (by simp; omega)).trans (HCP.out 26)
                              have f26 : V9.frozen? ⟨P, 26, none⟩ = false := (HB9.out.frozen (p := ⟨P, 26, none⟩) (by simp; omega)).trans (HFP.out 26)
                              go_upto_region 25 with fail
                              obtain ⟨VA, hVA⟩ : ∃ VA, VA = V9.setCell ⟨P, 26, none⟩ (.slice ca n9 cc) := ⟨_, rfl⟩
                              rw [← hVA]
                              have HCP := Lib.hid (show ∀ j, VA.cell? ⟨P, j, none⟩ = (({ Pdu.read l with data := [] } : Pdu.PD).cells (.slice ca n9 cc))[j]? from fun j => by
                                rw [cells_data (Pdu.read l) [] (.slice none 0 0) (.slice ca n9 cc) j, hVA]
                                by_cases hj : j = 26
                                · subst hj
                                  rw [if_pos rfl]
                                  exact World.cell?_setCell_same _ _ _ x26
                                · rw [if_neg hj]
                                  exact (World.cell?_setCell_other _ _ _ _ (fun e => hj (by injection e with e1 e2; exact e2.symm))).trans ((HB9.out.cell (p := ⟨P, j, none⟩) (by simp; omega)).trans (HCP.out j)))
                              have hkA : Keeps (· = P) wc VA := by rw [hVA]; exact (Keeps.of_below (F := (· = P)) HB9.out).setCell (p := ⟨P, 26, none⟩) (fun _ => rfl) _
                              have HOA := Lib.hid (show Owns wc.heap.size VA (.slice ca n9 cc) [] from by rw [hVA]; exact ((Keeps.refl (· = P) V9).setCell (p := ⟨P, 26, none⟩) (fun _ => rfl) _).owns HOw.out (fun k hk h => by have := HOw.out.from k hk; omega))
                              have HTab := Lib.hid (show ∃ d', Table VA tb d' from HTab.out.imp fun d' h => h.keeps hkA (by omega))
                              have HK := Lib.hid (HK.out.trans hkA (fun z h1 h2 => by omega))
                              clear hVA x26 f26 hkA HB9 HOw
                              obtain ⟨qq, hqq⟩ : ∃ qq : Pdu.PD, qq = { Pdu.read l with data := [] } := ⟨_, rfl⟩
                              rw [← hqq] at HPa HCP
                              have HQQ := Lib.hid (show [] = qq.data from by rw [hqq])
                              clear hqq
                              have HRx := HRof VA HK.out
                              go_wp2_with (first | refine wpList_load_pd rfl 32 (.tmp 14) rfl P rfl (qq) (.slice ca n9 cc) _ HU2.out rfl HI2.out HCP.out ?_ | (refine wpList_store_pd rfl 32 (.tmp 10) (.tmp 130) rfl w.heap.size Pdu.pdZero (qq) (.slice none 0 0) (.slice ca n9 cc) rfl rfl HRx.out.1 HRx.out.2 rfl HI2.out ?_; intro W9 hc9 hf9 hk9 hs9; have HC9 := Lib.hid hc9; have HK9 := Lib.hid hk9; clear hc9 hf9 hk9))
                              (try simp only [Exit.inBlock, Exit.then])
                              refine bodyPost_ret (results_cell3 (cs := ((qq).cells (.slice ca n9 cc)).toList) rfl _ rfl (pd_range (qq) _ _ _ HC9.out) HU2.out rfl (by rw [HI2.out]; rfl)) rfl ?_
                              unfold ParsePost
                              rw [HPa.out]
                              exact ⟨_, rfl, ((HOA.out.keepsO HK9.out (fun k hk h => by have := HOA.out.from k hk; omega)).mono (by omega)).cast HQQ.out, HTab.out.imp fun d' h => h.keeps HK9.out (by omega), ((Keeps.of_below (F := (· = tb)) HBW.out).trans HK.out (fun _ _ h => h)).trans HK9.out (fun z h1 h2 => by omega)⟩
                            case neg =>
                              have HP2 := Lib.hid (show BytesAt wc (.slice (some ⟨B, o + N, none⟩) L (c - N)) X from by have := (HDof _ HK.out).out.part N (N + L) (c - N) (by omega) (by omega); rw [drop_take_part, Nat.add_sub_cancel_left, ← HX.out] at this; exact this)
                              go_wp2_with fail
                              refine (clone_any _ X _ (by first | exact HP2.out | (rw [Nat.add_sub_cancel_left]; exact HP2.out)) (by omega)).mono ?_
                              rintro e V9 ⟨v9, rfl, hown, hb9⟩
                              obtain ⟨ca, cc, rfl, _⟩ := hown.bytes.form
                              have hs9 := hb9.size
                              have HOw := Lib.hid hown
                              have HB9 := Lib.hid hb9
                              obtain ⟨n9, hn9⟩ : ∃ n9, n9 = X.length := ⟨_, rfl⟩
                              rw [← hn9]
                              rw [← hn9] at HOw
                              clear hn9 hown hb9
                              have x26 : V9.cell? ⟨P, 26, none⟩ = some (.slice none 0 0) := (HB9.out.cell (p := ⟨P, 26, none⟩) (by simp; omega)).trans (HCP.out 26)
                              have f26 : V9.frozen? ⟨P, 26, none⟩ = false := (HB9.out.frozen (p := ⟨P, 26, none⟩) (by simp; omega)).trans (HFP.out 26)
                              go_upto_region 25 with fail
                              obtain ⟨VA, hVA⟩ : ∃ VA, VA = V9.setCell ⟨P, 26, none⟩ (.slice ca n9 cc) := ⟨_, rfl⟩
                              rw [← hVA]
                              have HCP := Lib.hid (show ∀ j, VA.cell? ⟨P, j, none⟩ = (({ Pdu.read l with data := X } : Pdu.PD).cells (.slice ca n9 cc))[j]? from fun j => by
                                rw [cells_data (Pdu.read l) X (.slice none 0 0) (.slice ca n9 cc) j, hVA]
                                by_cases hj : j = 26
                                · subst hj
                                  rw [if_pos rfl]
                                  exact World.cell?_setCell_same _ _ _ x26
                                · rw [if_neg hj]
                                  exact (World.cell?_setCell_other _ _ _ _ (fun e => hj (by injection e with e1 e2; exact e2.symm))).trans ((HB9.out.cell (p := ⟨P, j, none⟩) (by simp; omega)).trans (HCP.out j)))
                              have hkA : Keeps (· = P) wc VA := by rw [hVA]; exact (Keeps.of_below (F := (· = P)) HB9.out).setCell (p := ⟨P, 26, none⟩) (fun _ => rfl) _
                              have HOA := Lib.hid (show Owns wc.heap.size VA (.slice ca n9 cc) X from by rw [hVA]; exact ((Keeps.refl (· = P) V9).setCell (p := ⟨P, 26, none⟩) (fun _ => rfl) _).owns HOw.out (fun k hk h => by have := HOw.out.from k hk; omega))
                              have HTab := Lib.hid (show ∃ d', Table VA tb d' from HTab.out.imp fun d' h => h.keeps hkA (by omega))
                              have HK := Lib.hid (HK.out.trans hkA (fun z h1 h2 => by omega))
                              clear hVA x26 f26 hkA HB9 HOw
                              obtain ⟨qq, hqq⟩ : ∃ qq : Pdu.PD, qq = { Pdu.read l with data := X } := ⟨_, rfl⟩
                              rw [← hqq] at HPa HCP
                              have HQQ := Lib.hid (show X = qq.data from by rw [hqq])
                              clear hqq
                              have HRx := HRof VA HK.out
                              go_wp2_with (first | refine wpList_load_pd rfl 32 (.tmp 14) rfl P rfl (qq) (.slice ca n9 cc) _ HU2.out rfl HI2.out HCP.out ?_ | (refine wpList_store_pd rfl 32 (.tmp 10) (.tmp 130) rfl w.heap.size Pdu.pdZero (qq) (.slice none 0 0) (.slice ca n9 cc) rfl rfl HRx.out.1 HRx.out.2 rfl HI2.out ?_; intro W9 hc9 hf9 hk9 hs9; have HC9 := Lib.hid hc9; have HK9 := Lib.hid hk9; clear hc9 hf9 hk9))
                              (try simp only [Exit.inBlock, Exit.then])
                              refine bodyPost_ret (results_cell3 (cs := ((qq).cells (.slice ca n9 cc)).toList) rfl _ rfl (pd_range (qq) _ _ _ HC9.out) HU2.out rfl (by rw [HI2.out]; rfl)) rfl ?_
                              unfold ParsePost
                              rw [HPa.out]
                              exact ⟨_, rfl, ((HOA.out.keepsO HK9.out (fun k hk h => by have := HOA.out.from k hk; omega)).mono (by omega)).cast HQQ.out, HTab.out.imp fun d' h => h.keeps HK9.out (by omega), ((Keeps.of_below (F := (· = tb)) HBW.out).trans HK.out (fun _ _ h => h)).trans HK9.out (fun z h1 h2 => by omega)⟩
end Go.Proofs.Ytodmpchnjakchaa
