/-
  PduErrors: the walk.
-/
import Derived.Test.YtodmpchnjakchaaPduWritesWalk
import Derived.Test.YtodmpchnjakchaaPduErrMath
namespace Go.Proofs.Ytodmpchnjakchaa
open Go.RowKit

theorem bit_walk (c k : Nat) : (((c : Int) / 2 ^ k).tmod 2 == 1) = c.testBit k := by
  have e : (c : Int) / 2 ^ k = ((c / 2 ^ k : Nat) : Int) := by simp
  rw [e, Nat.testBit_eq_decide_div_mod_eq]
  generalize c / 2 ^ k = d
  have e2 : (d : Int).tmod 2 = ((d % 2 : Nat) : Int) := by simp [Int.tmod_eq_emod_of_nonneg]
  rw [e2]
  by_cases h : d % 2 = 1
  · rw [h]; rfl
  · simp only [h, decide_false]
    rw [beq_eq_false_iff_ne]; omega
theorem xor_pow_walk (x r y : Nat) (r8 : r < 8) (ey : bits .xor .u8 (x : Int) ((2 ^ r : Nat) : Int) = (y : Int)) : bits .xor .u8 (x : Int) ((2 : Int) ^ r % 256) = (y : Int) := by
  rw [← ey]
  have h2 : 2 ^ r < 2 ^ 8 := Nat.pow_lt_pow_right (by omega) r8
  have e : ((2 : Int) ^ r % 256) = ((2 ^ r : Nat) : Int) := by
    have h3 : ((2 ^ r : Nat) : Int) = (2 : Int) ^ r := by simp
    rw [← h3]
    generalize 2 ^ r = d at *
    omega
  rw [e]
set_option linter.unusedVariables false in
theorem tmod_bounds8 (x : Int) (n : Nat) (h : 0 < n) : -(8 * (n : Int)) < x.tmod (8 * (n : Int)) ∧ x.tmod (8 * (n : Int)) < 8 * (n : Int) := by
  have e := Int.natAbs_tmod x (8 * (n : Int))
  have : x.natAbs % (8 * (n : Int)).natAbs < 8 * n := by
    have : (8 * (n : Int)).natAbs = 8 * n := by omega
    rw [this]
    exact Nat.mod_lt _ (by omega)
  omega
theorem line_long (p : Pdu.PD) (ht : p.tail.length = 16) : 52 ≤ (Pdu.line p true true).length := by
  have h1 := Pdu.headed_length p true ht
  have h3 : Pdu.off true = 52 := rfl
  unfold Pdu.line
  rw [List.length_append, List.length_append]
  omega

set_option maxRecDepth 100000 in
set_option maxHeartbeats 6400000 in
theorem errors_any (p : Pdu.PD) (dv : Value) (at_ : Int) (change : Nat) (w : World) (hp : p.Ok) (hd : BytesAt w dv p.data) (hl : p.data.length ≤ 140737488355328) (hat : i64s at_) (hch : change < 4294967296) :
    Calls Try.prog 6 #[.agg (p.cells dv), .int .i64 at_, .int .u32 (change : Int)] w fun e w' => e = .returned (.bool true) ∧ Below w.heap.size w w' := by
  have ha1 := hat.1
  have ha2 := hat.2
  obtain ⟨da, dc, rfl, _⟩ := hd.form
  have hdl := hd.lies
  obtain ⟨dl, hdle⟩ : ∃ dl, dl = p.data.length := ⟨_, rfl⟩
  rw [← hdle] at hd hdl hl ⊢
  have HDLe := Lib.hid hdle
  clear hdle
  obtain ⟨PB, hPB⟩ : ∃ PB, PB = w.heap.size := ⟨_, rfl⟩
  obtain ⟨W, hW⟩ : ∃ W, W = w.alloc (.cells (p.cells (.slice da dl dc)) 25) := ⟨_, rfl⟩
  have HBW := Lib.hid (show Below w.heap.size w W by rw [hW]; exact allocBelow w _)
  have hsW : W.heap.size = w.heap.size + 1 := by rw [hW]; simp
  have HC := Lib.hid (show ∀ j, W.cell? ⟨PB, j, none⟩ = (p.cells (.slice da dl dc))[j]? from fun j => by rw [hPB, hW]; exact World.cell?_alloc_new _ _ _ _)
  have HD := Lib.hid (hd.later HBW.out)
  have HI2 := Lib.hid (show (Try.prog.info? 32).map (·.size) = some 27 by kernel_rfl)
  have HU2 := Lib.hid (Try.underlying32)
  have HIR := Lib.hid (show (Try.prog.info? 25).map (·.size) = some 27 by kernel_rfl)
  have HUR := Lib.hid (Try.underlying25)
  clear hd
  go_enter Try.func6, Try.ntmps6
  go_upto_region 1 with fail
  rw [← hW]
  clear hW
  rw [← hPB]
  go_wp2_with fail
  refine (new_any W).mono ?_
  rintro e w1 ⟨rfl, ht1, hb1, hs1⟩
  obtain ⟨tb, htb⟩ : ∃ tb, tb = W.heap.size := ⟨_, rfl⟩
  rw [← htb] at ht1 ⊢
  have hsz : w.heap.size ≤ PB ∧ PB ≤ w.heap.size ∧ PB + 1 ≤ tb ∧ tb ≤ PB + 1 ∧ tb + 1 ≤ w1.heap.size := by omega
  have HB1 := Lib.hid (show Below (PB + 1) W w1 from hb1.mono (by omega))
  have HBw1 := Lib.hid (show Below w.heap.size w w1 from HBW.out.trans (hb1.mono (by omega)))
  have HPof : ∀ V, Keeps (· = tb) w1 V → Hid (∀ j, V.cell? ⟨PB, j, none⟩ = (p.cells (.slice da dl dc))[j]?) := fun V hV j => (hV.cell (p := ⟨PB, j, none⟩) (by simp; omega) (by simp; omega)).trans ((HB1.out.cell (p := ⟨PB, j, none⟩) (by simp)).trans (HC.out j))
  have hdt : LiesIn (.slice da dl dc) (· ≠ tb) := hdl.mono fun k hk => by omega
  have HDof : ∀ V, Keeps (· = tb) w1 V → Hid (BytesAt V (.slice da dl dc) p.data) := fun V hV => (HD.out.below HB1.out (hdl.mono fun k hk => by omega)).keeps hV hdt
  clear hPB hsW hs1 htb hb1 HBW
  have HT1 := Lib.hid ht1; clear ht1
  go_wp2_with fail
  refine (known_any tb false w1 HT1.out).mono ?_
  rintro e w2 ⟨rfl, ⟨d2, ht2⟩, hk2⟩
  have HT2 := Lib.hid ht2
  have HK2 := Lib.hid hk2
  clear ht2 hk2 HT1
  have HP2 := HPof w2 HK2.out
  go_wp2_with (refine wpList_load_pd rfl 25 (.tmp 3) rfl PB rfl p (.slice da dl dc) _ HUR.out rfl HIR.out HP2.out ?_)
  refine (given_any p _ w2 (HDof w2 HK2.out).out).mono ?_
  rintro e w3 ⟨rfl, hb3⟩
  have HK3 := Lib.hid (HK2.out.trans (Keeps.of_below (F := (· = tb)) hb3) (fun _ _ h => h))
  have HT3 := Lib.hid (HT2.out.keeps (Keeps.of_below (F := fun _ => False) hb3) (fun h => h))
  clear hb3 HT2 HP2
  have HPr := Lib.hid (print_any p _ true true tb d2 w3 hp (HDof w3 HK3.out).out HT3.out hdt)
  go_wp2_with fail
  refine HPr.out.mono ?_
  rintro e w4 hpost
  clear HPr
  unfold PrintPost at hpost
  cases hm : Pdu.may p with
  | false =>
    rw [hm, if_neg (by simp)] at hpost
    obtain ⟨rfl, _, hk4⟩ := hpost
    have HK4 := Lib.hid (HK3.out.trans hk4 (fun _ _ h => h))
    clear hm hk4
    go_wp2_with fail
    go_ret
    exact ⟨rfl, HBw1.out.trans (HK4.out.below (B := w.heap.size) (by omega) (fun z h1 h2 => by omega))⟩
  | true =>
    rw [hm, if_pos rfl] at hpost
    obtain ⟨⟨v, rfl, ho4⟩, ⟨d4, ht4⟩, hk4⟩ := hpost
    have HM := Lib.hid hm
    have HK4 := Lib.hid (HK3.out.trans hk4 (fun _ _ h => h))
    have HT4 := Lib.hid ht4
    have hs4 := hk4.size
    have hs3 := HK3.out.size
    obtain ⟨L, hL⟩ : ∃ L, L = Pdu.line p true true := ⟨_, rfl⟩
    rw [← hL] at ho4
    have HL := Lib.hid hL
    have hLb := Lib.hid (show Crc.Bytes L from by rw [hL]; exact Pdu.line_bytes p true true hp.bytes hp.data)
    have hLl : L.length ≤ 1200 := by
      have h3 : p.data.length ≤ 1024 := by simp only [Pdu.may, Bool.and_eq_true, decide_eq_true_eq] at hm; exact hm.2
      rw [hL]
      exact line_short p true true hp.tail h3
    have hLg : 52 ≤ L.length := by rw [hL]; exact line_long p hp.tail
    obtain ⟨G, vc, rfl⟩ : ∃ g cap, v = .slice (some ⟨g, 0, none⟩) L.length cap := by
      rcases ho4.2 with ⟨rfl, h0⟩ | ⟨g, cap, cur, rfl, _⟩
      · omega
      · exact ⟨g, cap, rfl⟩
    have hroom := ho4.room
    obtain ⟨n0, hn0⟩ : ∃ n0, n0 = L.length := ⟨_, rfl⟩
    rw [← hn0] at ho4 hLl hLg hroom ⊢
    have HLen := Lib.hid hn0.symm
    have HO4 := Lib.hid ho4
    obtain ⟨hG1, hG2⟩ := ho4.from G rfl
    have hGtb : G ≠ tb := by omega
    have htbw4 : tb < w4.heap.size := by omega
    clear hm hk4 ht4 ho4 hL hn0
    go_upto_if 36 with fail
    obtain ⟨q1, q2⟩ := tmod_bounds8 at_ n0 (by omega)
    generalize at_.tmod (8 * (n0 : Int)) = q at *
    go_cut [10] from 36 to 41 (fun v wx => ∃ bit : Nat, v = .int .i64 bit ∧ bit < 8 * n0 ∧ w4 = wx)
    case first =>
      by_cases hq : q < 0
      · have tq : decide (q < 0) = true := by rw [decide_eq_true_eq]; exact hq
        go_wp2_with fail
        go_meet
        exact ⟨(q + 8 * n0).toNat, by congr 1; omega, by omega, rfl⟩
      · have tq : decide (q < 0) = false := by rw [decide_eq_false_iff_not]; omega
        go_wp2_with fail
        go_meet
        exact ⟨q.toNat, by congr 1; omega, by omega, rfl⟩
    case rest =>
      obtain ⟨bit, rfl, hbit, hWc⟩ := hcut
      subst hWc
      go_wp2_with fail
      go_loopg [11, 12] 32 (fun g s11 s12 wx => ∃ (k : Nat) (lk : List Nat) (t : Bool), k + g = 32 ∧ s12 = .int .i64 k ∧ s11 = .bool t ∧ Owns w3.heap.size wx (.slice (some ⟨G, 0, none⟩) n0 vc) lk ∧ Keeps (· = G) w4 wx ∧ Crc.Turned L lk bit k change t ∧ (t = false → lk = L))
      case atStart => exact ⟨0, L, false, by omega, rfl, rfl, HO4.out, Keeps.refl _ _, Crc.Turned.zero _ _ _ hLb.out, fun _ => rfl⟩
      case round =>
        obtain ⟨k, lk, t, hkg, rfl, rfl, hown, hkr, htn, hteq⟩ := hrel
        have HO := Lib.hid hown; clear hown
        have HKr := Lib.hid hkr; clear hkr
        have HN := Lib.hid htn; clear htn
        have HEq := Lib.hid hteq; clear hteq
        by_cases hlt : k < 32
        · by_cases hn : bit + k < 8 * n0
          · have hn' : (bit : Int) + (k : Int) < 8 * (n0 : Int) := by omega
            have tn : decide ((bit : Int) + (k : Int) < 8 * (n0 : Int)) = true := by rw [decide_eq_true_eq]; exact hn'
            have tb' := bit_walk change k
            have HNk := HN.out
            by_cases hb : change.testBit k = true
            · rw [hb] at tb'
              have HBt := Lib.hid hb; clear hb
              go_upto_region 16 with fail
              have hi : (bit + k) / 8 < lk.length := by rw [HNk.len, HLen.out]; omega
              have x0 := HO.out.cellNo ((bit + k) / 8) hi
              have f0 := HO.out.freeNo ((bit + k) / 8)
              have g0 : (bit + k) / 8 < n0 := by omega
              have ey := u8_xor_nat (lk.getD ((bit + k) / 8) 0) (2 ^ ((bit + k) % 8)) (Crc.getD_lt HNk.bytes _) (Crc.pow_byte _)
              have e0 : (bit : Int) + (k : Int) = ((bit + k : Nat) : Int) := by omega
              have e1 : ((bit + k : Nat) : Int) / 8 = (((bit + k) / 8 : Nat) : Int) := by omega
              have e2 : ((bit + k : Nat) : Int) % 8 = (((bit + k) % 8 : Nat) : Int) := by omega
              have r8 : (bit + k) % 8 < 8 := by omega
              have HTu : Hid (Crc.turn lk (bit + k) = lk.set ((bit + k) / 8) (lk.getD ((bit + k) / 8) 0 ^^^ 2 ^ ((bit + k) % 8))) := rfl
              have hnb : bit + k ≤ 9223372036854775807 := by omega
              clear hn hn' HNk tn
              generalize lk.getD ((bit + k) / 8) 0 ^^^ 2 ^ ((bit + k) % 8) = y at *
              generalize lk.getD ((bit + k) / 8) 0 = x at *
              generalize (bit + k) / 8 = q at *
              generalize (bit + k) % 8 = r at *
              generalize hNe : bit + k = N at *
              have HNe := Lib.hid hNe; clear hNe
              have wq : IntKind.i64.wrap (q : Int) = (q : Int) := IntWalk.i64_in _ (by omega)
              have wr8 : IntKind.i64.wrap (r : Int) = (r : Int) := IntWalk.i64_in _ (by omega)
              have e3 : (N : Int).tmod 8 = (r : Int) := by rw [Int.tmod_eq_emod_of_nonneg (Int.natCast_nonneg _)]; exact e2
              have ey' := xor_pow_walk x r y r8 ey
              have HEY := Lib.hid ey'; clear ey' ey
              go_still_tail 13, (by kernel_rfl)
              change wpList _ _ _ _ _ (World.drew _)
              go_wp2_with fail
              go_roundg (gk - 1)
              case measure => omega
              case rel =>
                rw [HEY.out]
                refine ⟨k + 1, lk.set q y, true, by omega, by go_num, rfl, HO.out.set q y, (HKr.out.setCell (p := ⟨G, q, none⟩) (fun _ => rfl) _).drew, ?_, fun h => by cases h⟩
                rw [← HTu.out, ← HNe.out]
                exact HN.out.turn (by rw [HLen.out]; have := HNe.out; omega) HBt.out
            · rw [Bool.not_eq_true] at hb
              rw [hb] at tb'
              have HBt := Lib.hid hb; clear hb HNk
              go_wp2_with fail
              go_roundg (gk - 1)
              case measure => omega
              case rel => exact ⟨k + 1, lk, t, by omega, by go_num, rfl, HO.out, HKr.out, HN.out.skip (.inr HBt.out), HEq.out⟩
          · have tn : decide ((bit : Int) + (k : Int) < 8 * (n0 : Int)) = false := by rw [decide_eq_false_iff_not]; omega
            go_wp2_with fail
            go_roundg (gk - 1)
            case measure => omega
            case rel => exact ⟨k + 1, lk, t, by omega, by go_num, rfl, HO.out, HKr.out, HN.out.skip (.inl (by rw [HLen.out]; omega)), HEq.out⟩
        · obtain rfl : k = 32 := by omega
          have hs5 := HKr.out.size
          have HK5 := Lib.hid (show Keeps (fun z => z = tb) w1 wr from HK4.out.trans HKr.out (fun z h1 h2 => by omega))
          have HT5 := Lib.hid (HT4.out.keeps HKr.out (by omega))
          obtain ⟨A, hA⟩ : ∃ A, A = Pdu.parse lk true true 1024 := ⟨_, rfl⟩
          have hlkl : lk.length = n0 := HN.out.len.trans HLen.out
          have HPa := Lib.hid (parse_any _ (some ⟨G, 0, none⟩) n0 vc lk true true 1024 tb d4 wr rfl HO.out.bytes HN.out.bytes hroom (by omega) ⟨by omega, by omega⟩ HT5.out (fun a n c e hn => by injection e with e1 e2 e3; injection e1 with e1; rw [← e1]; simp; omega))
          have hpn : t = true → (Pdu.parse lk true true 1024).2.2 = 13 ∨ ((Pdu.parse lk true true 1024).2.2 = 41 ∧ (Pdu.parse lk true true 1024).1.data = []) := fun ht => by
            have HN' := HN.out
            rw [ht] at HN'
            have h1 := HN'.near (Nat.le_refl _)
            have h2 := HN'.differs
            rw [HL.out] at h1 h2
            exact Pdu.parse_near p lk HM.out hp.tail hp.bytes hp.data HN'.bytes (by rw [hlkl, ← HLen.out, HL.out]) h1 h2
          have hpf : t = false → Pdu.parse lk true true 1024 = (p, n0, 0) := fun ht => by
            have h := Pdu.parse_line p true true [] hp.tail HM.out
            rw [List.append_nil, ← HL.out, HLen.out] at h
            rw [HEq.out ht]
            exact h
          rw [← hA] at hpn hpf
          have HPn := Lib.hid hpn
          have HPf := Lib.hid hpf
          clear hpn hpf hlkl
          go_wp2_with fail
          refine HPa.out.mono ?_
          rintro e w6 hpost
          unfold ParsePost at hpost
          rw [← hA] at hpost
          obtain ⟨p6, n6, f6⟩ := A
          simp only at hpost
          obtain ⟨ev, rfl, ho6, _, hk6⟩ := hpost
          obtain ⟨ea, ec, rfl, _⟩ := ho6.bytes.form
          obtain ⟨en, hen⟩ : ∃ en, en = p6.data.length := ⟨_, rfl⟩
          rw [← hen] at ho6 ⊢
          have HEn := Lib.hid hen
          have HO6 := Lib.hid ho6
          have HK6 := Lib.hid (HK5.out.trans hk6 (fun _ _ h => h))
          have hs6 := hk6.size
          clear hen ho6 hk6 HPa hA
          obtain ⟨P, hP⟩ : ∃ x, x = w6.heap.size := ⟨_, rfl⟩
          go_upto_region 19 with (refine wpList_store_pd rfl 32 (.tmp 14) (.tmp 78) rfl w6.heap.size Pdu.pdZero (p6) (.slice none 0 0) (.slice ea en ec) rfl rfl (fun j => show (w6.alloc (.cells #[.int .i64 0, .bool false, .int .i64 0, .int .i64 0, .int .i64 0, .int .i64 0, .int .i64 0, .int .i64 0, .int .i64 0, .int .i64 0, .int .u8 0, .int .u8 0, .int .u8 0, .int .u8 0, .int .u8 0, .int .u8 0, .int .u8 0, .int .u8 0, .int .u8 0, .int .u8 0, .int .u8 0, .int .u8 0, .int .u8 0, .int .u8 0, .int .u8 0, .int .u8 0, .slice none 0 0] 32)).cell? _ = _ from World.cell?_alloc_new _ _ _ _) (fun j => frozen_new _ _ _ _) rfl HI2.out ?_; intro w7 hc hf hk hs; have HCP := Lib.hid hc; have HFP := Lib.hid hf; have HKP := Lib.hid ((((Keeps.refl (fun z => z = w6.heap.size) w6).alloc _).trans hk (fun _ _ h => h)).below (B := w6.heap.size) (Nat.le_refl _) (fun z h1 h2 => by omega)); have hsP : w7.heap.size = w6.heap.size + 1 := (by rw [hs]; simp); clear hc hf hk hs)
          rw [← hP]
          rw [← hP] at HCP HFP hsP
          have hleP : P ≤ w6.heap.size ∧ w6.heap.size ≤ P ∧ P + 1 ≤ w7.heap.size ∧ w7.heap.size ≤ P + 1 := by omega
          clear hP hsP
          have HK7 := Lib.hid (show Keeps (· = tb) w1 w7 from HK6.out.trans (Keeps.of_below (F := (· = tb)) HKP.out) (fun _ _ h => h))
          cases t with
          | true =>
            rcases HPn.out rfl with h13 | ⟨h41, hdn⟩
            · subst h13
              go_wp2_with fail
              go_ret
              exact ⟨rfl, HBw1.out.trans (HK7.out.below (B := w.heap.size) (by omega) (fun z h1 h2 => by omega))⟩
            · subst h41
              have hen0 : en = 0 := by rw [HEn.out, hdn]; rfl
              subst hen0
              have x26 : w7.cell? ⟨P, 26, none⟩ = some (.slice ea 0 ec) := HCP.out 26
              clear hdn
              go_wp2_with fail
              go_ret
              exact ⟨rfl, HBw1.out.trans (HK7.out.below (B := w.heap.size) (by omega) (fun z h1 h2 => by omega))⟩
          | false =>
            have hpe := HPf.out rfl
            injection hpe with g1 g2
            injection g2 with g2 g3
            subst g1 g2 g3
            have HPof9 : ∀ V, Below w7.heap.size w7 V → Hid (∀ j, V.cell? ⟨PB, j, none⟩ = (p6.cells (.slice da dl dc))[j]?) := fun V hV => HPof V (HK7.out.trans (Keeps.of_below (F := (· = tb)) hV) (fun _ _ h => h))
            have HDof9 : ∀ V, Below w7.heap.size w7 V → Hid (BytesAt V (.slice da dl dc) p6.data) := fun V hV => HDof V (HK7.out.trans (Keeps.of_below (F := (· = tb)) hV) (fun _ _ h => h))
            have HQof9 : ∀ V, Below w7.heap.size w7 V → Hid (∀ j, V.cell? ⟨P, j, none⟩ = (p6.cells (.slice ea en ec))[j]?) := fun V hV j => (hV.cell (p := ⟨P, j, none⟩) (by simp; omega)).trans (HCP.out j)
            have HEof9 : ∀ V, Below w7.heap.size w7 V → Hid (BytesAt V (.slice ea en ec) p6.data) := fun V hV => (HO6.out.bytes.below HKP.out (HO6.out.lies.mono fun z h => h.2)).below hV (HO6.out.lies.mono fun z h => by have := HKP.out.size; omega)
            clear HPof HDof HCP HFP HO6 HO HC HD HPn HPf
            go_upto_region 20 with fail
            have hk0 : Below w7.heap.size w7 w7.drew := (Below.refl _ _).drew
            refine wp_region_held_drew (S := fun w' => Below w7.heap.size w7 w') (by kernel_rfl) hk0 (fun hHeld => ?_)
            refine wpAnyH_take (i := 0) (v := .int .i64 0) ops_at0 (by kernel_rfl) (by kernel_rfl) (by kernel_rfl) (fun _ _ _ h => h) (Or.inl ⟨by rfl, fun V hV => ?_⟩) hHeld ?_
            · go_simp
            simp only [Act.put, List.setIfInBounds_toArray, List.set_cons_zero, List.set_cons_succ]
            refine wpAnyH_take (i := 1) (v := .bool true) ops_at1 (by kernel_rfl) (by kernel_rfl) (by kernel_rfl) (fun _ _ _ h => h) (Or.inl ⟨by rfl, fun V hV => ?_⟩) hHeld ?_
            · go_simp
            simp only [Act.put, List.setIfInBounds_toArray, List.set_cons_zero, List.set_cons_succ]
            refine wpAnyH_take (i := 2) (v := .bool true) ops_at2 (by kernel_rfl) (by kernel_rfl) (by kernel_rfl) (fun _ _ _ h => h) (Or.inl ⟨by rfl, fun V hV => ?_⟩) hHeld ?_
            · go_simp
            simp only [Act.put, List.setIfInBounds_toArray, List.set_cons_zero, List.set_cons_succ]
            refine wpAnyH_take (i := 3) ops_at3 (by kernel_rfl) (by kernel_rfl) (by kernel_rfl) (fun _ _ _ h => h) (yieldsIf_load_mid (by rfl) 25 _ rfl PB 0 rfl ((p6).cells (.slice da dl dc)).toList _ (fun V hV => pd_range (p6) _ _ _ (HPof9 V hV).out) HUR.out rfl (by rw [HIR.out]; rfl)) hHeld ?_
            simp only [Act.put, List.setIfInBounds_toArray, List.set_cons_zero, List.set_cons_succ]
            refine wpAnyH_take (i := 4) ops_at4 (by kernel_rfl) (by kernel_rfl) (by kernel_rfl) (fun _ _ _ h => h) (yieldsIf_load_mid (by rfl) 32 _ rfl P 0 rfl ((p6).cells (.slice ea en ec)).toList _ (fun V hV => pd_range (p6) _ _ _ (HQof9 V hV).out) HU2.out rfl (by rw [HI2.out]; rfl)) hHeld ?_
            simp only [Act.put, List.setIfInBounds_toArray, List.set_cons_zero, List.set_cons_succ]
            refine wpAnyH_ready (rs := [5]) (by kernel_rfl) (by simp) ?_
            refine AllReadyH.cons ops_at5 (fun K hK => ?_) AllReadyH.nil
            rw [if_pos (by rfl)]
            go_simp
            refine (told_any p6 (.slice ea en ec) _ (HEof9 _ hk0).out).mono ?_
            rintro e V1 ⟨rfl, hb⟩
            have hk1 : Below w7.heap.size w7 V1 := hk0.trans (hb.mono hk0.size)
            clear hb
            go_wp2_with fail
            refine hK.out _ _ hk1 (fun hHeld => ?_)
            clear hK K
            refine wpAnyH_ready (rs := [6]) (by kernel_rfl) (by simp) ?_
            refine AllReadyH.cons ops_at6 (fun K hK => ?_) AllReadyH.nil
            rw [if_pos (by rfl)]
            go_simp
            refine (same18_refl p6 _ _ _ (HDof9 _ hk1).out (HEof9 _ hk1).out (by have := HDLe.out; omega)).mono ?_
            rintro e V2 ⟨rfl, hb⟩
            have hk2 : Below w7.heap.size w7 V2 := hk1.trans (hb.mono hk1.size)
            clear hb
            go_wp2_with fail
            refine hK.out _ _ hk2 (fun hHeld => ?_)
            clear hK K
            refine wpAnyH_take (i := 7) (v := .bool true) ops_at7 (by kernel_rfl) (by kernel_rfl) (by kernel_rfl) (fun _ _ _ h => h) (Or.inl ⟨by rfl, fun V hV => ?_⟩) hHeld ?_
            · go_simp
            simp only [Act.put, List.setIfInBounds_toArray, List.set_cons_zero, List.set_cons_succ]
            refine wpAnyH_take (i := 8) (v := .bool true) ops_at8 (by kernel_rfl) (by kernel_rfl) (by kernel_rfl) (fun _ _ _ h => h) (Or.inl ⟨by rfl, fun V hV => ?_⟩) hHeld ?_
            · go_simp
            simp only [Act.put, List.setIfInBounds_toArray, List.set_cons_zero, List.set_cons_succ]
            refine wpAnyH_done (by kernel_rfl) ?_ _
            go_wp2_with fail
            go_ret
            exact ⟨rfl, HBw1.out.trans ((HK7.out.trans (Keeps.of_below (F := (· = tb)) hk2) (fun _ _ h => h)).below (B := w.heap.size) (by omega) (fun z h1 h2 => by omega))⟩
end Go.Proofs.Ytodmpchnjakchaa
