/-
  PDUs: the document's Print.
-/
import Derived.Test.YtodmpchnjakchaaPduRefB
import Derived.Deep.RegionHeld3
import Derived.Deep.DeepCutAuto
namespace Go.Proofs.Ytodmpchnjakchaa
open Go.RowKit

theorem put_int (base : Nat) (v : Value) (l : List Nat) (n k : Nat) (w : World) (nI kI : Int) (h : Owns base w v l) (hn : nI = (n : Int)) (hkI : kI = (k : Int)) (hb : base ≤ w.heap.size) (hk : k ≤ 6) (hl : l.length ≤ 1000000) :
    Calls Try.prog 22 #[v, .int .i64 nI, .int .i64 kI] w fun e w' => ∃ v', e = .returned v' ∧ Owns base w' v' (l ++ Pdu.be k n) ∧ Below base w w' := by
  subst hn hkI
  exact put_any base v l n k w h hb hk hl
theorem cells_tail (p : Pdu.PD) (dv : Value) (i : Nat) (h : i < 16) : (p.cells dv)[10 + i]? = some (.int .u8 (p.tb i : Nat)) := by
  have : i = 0 ∨ i = 1 ∨ i = 2 ∨ i = 3 ∨ i = 4 ∨ i = 5 ∨ i = 6 ∨ i = 7 ∨ i = 8 ∨ i = 9 ∨ i = 10 ∨ i = 11 ∨ i = 12 ∨ i = 13 ∨ i = 14 ∨ i = 15 := by omega
  rcases this with rfl | rfl | rfl | rfl | rfl | rfl | rfl | rfl | rfl | rfl | rfl | rfl | rfl | rfl | rfl | rfl <;> rfl
theorem tail_take (p : Pdu.PD) (i : Nat) (hi : i < p.tail.length) : p.tail.take (i + 1) = p.tail.take i ++ [p.tb i] := by
  rw [List.take_succ_eq_append_getElem hi]
  simp [Pdu.PD.tb, List.getD, hi]

theorem cells_size (p : Pdu.PD) (dv : Value) : (p.cells dv).size = 27 := rfl
theorem pd_range (p : Pdu.PD) (dv : Value) (b : Nat) (w : World) (h : ∀ j, w.cell? ⟨b, j, none⟩ = (p.cells dv)[j]?) : w.rangeAt b 0 (p.cells dv).toList := fun j v hj => by
  rw [Nat.zero_add, h j, ← hj]
  simp
/-- A whole PDU is loaded. -/
theorem wpList_load_pd {ops : Array Oper} {rest : List Oper} {op : Oper} {a : Act} {w : World} {Q : Exit → Act → World → Prop} (hgd : op.guard = none) (T : TypeId) (x : Operand) (ho : op.op = .load T x)
    (b : Nat) (hx : a.eval x = .pointer (some ⟨b, 0, none⟩)) (p : Pdu.PD) (dv : Value) (d : TypeDesc) (hu : Try.prog.underlying T = some d) (hd : d.isRow = true) (hi : (Try.prog.info? T).map (·.size) = some 27)
    (hc : ∀ j, w.cell? ⟨b, j, none⟩ = (p.cells dv)[j]?) (h : wpList Try.prog ops Q rest (a.put op.dst (.agg (p.cells dv))) w) : wpList Try.prog ops Q (op :: rest) a w :=
  wpList_load_mid hgd T x ho b 0 hx (p.cells dv).toList d (pd_range p dv b w hc) hu hd (by rw [hi]; rfl) h

set_option maxRecDepth 100000 in
set_option maxHeartbeats 6400000 in
theorem print18_no (p : Pdu.PD) (dv : Value) (head data : Bool) (w : World) (hp : p.Ok) (h : BytesAt w dv p.data) (hm : Pdu.may p = false) :
    Calls Try.prog 12 #[.agg (p.cells dv), .bool head, .bool data] w fun e w' => e = .returned (.tuple #[.slice none 0 0, .int .i64 1]) ∧ Below w.heap.size w w' := by
  obtain ⟨W, hW⟩ : ∃ W, W = w.alloc (.cells (p.cells dv) 25) := ⟨_, rfl⟩
  have hsW : W.heap.size = w.heap.size + 1 := by rw [hW]; simp
  have HBW := Lib.hid (show Below w.heap.size w W by rw [hW]; exact allocBelow w _)
  have HM := Lib.hid (may_any p dv W hp (h.later HBW.out))
  rw [hm] at HM
  have HC := Lib.hid (show ∀ j, W.cell? ⟨w.heap.size, j, none⟩ = (p.cells dv)[j]? from fun j => by rw [hW]; exact World.cell?_alloc_new _ _ _ _)
  have HI := Lib.hid (show (Try.prog.info? 25).map (·.size) = some 27 by kernel_rfl)
  clear hp h hm
  go_enter Try.func12, Try.ntmps12
  go_upto_region 1 with fail
  rw [← hW]
  clear hW
  go_wp2_with (refine wpList_load_pd rfl 25 (.tmp 3) rfl w.heap.size rfl p dv _ Try.underlying25 rfl HI.out HC.out ?_)
  refine HM.out.mono ?_
  rintro e w1 ⟨rfl, hb⟩
  have HB := Lib.hid (HBW.out.trans (hb.mono (by omega)))
  go_wp2_with fail
  go_ret2
  exact ⟨rfl, HB.out⟩

theorem Owns.laterO {base : Nat} {w w' : World} {v : Value} {l : List Nat} (h : Owns base w v l) (hb : Below w.heap.size w w') : Owns base w' v l :=
  (Keeps.of_below (F := fun _ => False) hb).owns h (fun _ _ h => h)

set_option maxRecDepth 100000 in
set_option maxHeartbeats 6400000 in
theorem print18_yes (p : Pdu.PD) (dv : Value) (head data : Bool) (w : World) (hp : p.Ok) (h : BytesAt w dv p.data) (hm : Pdu.may p = true) :
    Calls Try.prog 12 #[.agg (p.cells dv), .bool head, .bool data] w fun e w' => ∃ v, e = .returned (.tuple #[v, .int .i64 0]) ∧ Owns w.heap.size w' v (Pdu.line p head data) ∧ Below w.heap.size w w' := by
  obtain ⟨W, hW⟩ : ∃ W, W = w.alloc (.cells (p.cells dv) 25) := ⟨_, rfl⟩
  have hsW : W.heap.size = w.heap.size + 1 := by rw [hW]; simp
  have HBW := Lib.hid (show Below w.heap.size w W by rw [hW]; exact allocBelow w _)
  have HDW := Lib.hid (h.later HBW.out)
  have HMay := Lib.hid (may_any p dv W hp HDW.out)
  rw [hm] at HMay
  have HC := Lib.hid (show ∀ j, W.cell? ⟨w.heap.size, j, none⟩ = (p.cells dv)[j]? from fun j => by rw [hW]; exact World.cell?_alloc_new _ _ _ _)
  have HI := Lib.hid (show (Try.prog.info? 25).map (·.size) = some 27 by kernel_rfl)
  obtain ⟨da, dc, hdv, _⟩ := h.form
  have HDV := Lib.hid hdv; clear hdv
  have hdl : p.data.length ≤ 1024 := by
    simp only [Pdu.may, Bool.and_eq_true, decide_eq_true_eq] at hm; exact hm.2
  have hop : 0 ≤ p.op ∧ p.op ≤ 63 := by
    simp only [Pdu.may, Bool.and_eq_true, decide_eq_true_eq] at hm; omega
  have hnn : 0 ≤ p.flags ∧ 0 ≤ p.info ∧ 0 ≤ p.wide ∧ 0 ≤ p.short ∧ 0 ≤ p.tag ∧ 0 ≤ p.word ∧ 0 ≤ p.num ∧ 0 ≤ p.exp := by
    simp only [Pdu.may, Pdu.fits, Bool.and_eq_true, decide_eq_true_eq] at hm; omega
  obtain ⟨n1, n2, n3, n4, n5, n6, n7, n8⟩ := hnn
  have HP := Lib.hid hp; clear hp h hm
  go_enter Try.func12, Try.ntmps12
  go_upto_region 1 with fail
  rw [← hW]
  clear hW
  go_wp2_with (refine wpList_load_pd rfl 25 (.tmp 3) rfl w.heap.size rfl p dv _ Try.underlying25 rfl HI.out HC.out ?_)
  refine HMay.out.mono ?_
  rintro e V0 ⟨rfl, hb⟩
  have HB0 := Lib.hid hb; clear hb HMay
  have HCell := Lib.hid (show ∀ V, Below W.heap.size W V → ∀ j, V.cell? ⟨w.heap.size, j, none⟩ = (p.cells dv)[j]? from fun V hV j => (hV.cell (p := ⟨w.heap.size, j, none⟩) (by simp; omega)).trans (HC.out j))
  have c0 : V0.cell? ⟨w.heap.size, 0, none⟩ = some (.int .i64 p.op) := HCell.out V0 HB0.out 0
  have c1 : V0.cell? ⟨w.heap.size, 1, none⟩ = some (.bool p.imm) := HCell.out V0 HB0.out 1
  go_upto_if 18 with fail
  go_cut [8] (fun v wx => v = .int .i64 (Pdu.first p : Nat) ∧ wx = V0)
  case first =>
    have hfi := HP.out.op
    unfold i64s at hfi
    cases hi : p.imm with
    | true =>
      have ef : ((Pdu.first p : Nat) : Int) = p.op + 64 := by unfold Pdu.first; rw [hi]; simp only [if_true]; omega
      go_wp2_with fail
      go_meet
      exact ⟨by rw [ef], rfl⟩
    | false =>
      have ef : ((Pdu.first p : Nat) : Int) = p.op := by unfold Pdu.first; rw [hi]; simp only [Bool.false_eq_true, if_false]; omega
      go_wp2_with fail
      go_meet
      exact ⟨by rw [ef], rfl⟩
  case rest =>
    obtain ⟨rfl, rfl⟩ := hcut
    go_upto_region 6 with fail
    have hb6_0 : Below W.heap.size W wc.drew := HB0.out.drew
    have HSS6 := Lib.hid (show ∀ V, Below W.heap.size W V → V.cell? ⟨w.heap.size, 2, none⟩ = some (.int .i64 p.flags) ∧ V.cell? ⟨w.heap.size, 3, none⟩ = some (.int .i64 p.info) from fun V hV => ⟨HCell.out V hV 2, HCell.out V hV 3⟩)
    go_region_held3 (fun w' => w'.cell? ⟨w.heap.size, 2, none⟩ = some (.int .i64 p.flags) ∧ w'.cell? ⟨w.heap.size, 3, none⟩ = some (.int .i64 p.info))
      (first | exact HSS6.out _ hb6_0 | exact HSS6.out _ hb6_1 | exact HSS6.out _ hb6_2 | exact HSS6.out _ hb6_3)
      (first
        | (go_at_call_of 22 (Value.int .i64 ((Pdu.first p : Nat) : Int)); refine (put_int W.heap.size (.slice none 0 0) _ (Pdu.first p) 1 _ _ _ (Owns.nil W.heap.size _) rfl rfl hb6_0.size (by omega) (by simp)).mono ?_; rintro _ V1 ⟨v1, rfl, ho, hb⟩; have hb6_1 : Below W.heap.size W V1 := hb6_0.trans hb; have HO1 := Lib.hid ho; clear ho hb)
        | (go_at_call_of 22 (Value.int .i64 p.flags); refine (put_int W.heap.size _ _ (p.flags.toNat) 1 _ _ _ HO1.out (by omega) rfl hb6_1.size (by omega) (by simp [Pdu.be_length])).mono ?_; rintro _ V2 ⟨v2, rfl, ho, hb⟩; have hb6_2 : Below W.heap.size W V2 := hb6_1.trans hb; have HO2 := Lib.hid ho; clear ho hb)
        | (go_at_call_of 22 (Value.int .i64 p.info); refine (put_int W.heap.size _ _ (p.info.toNat) 2 _ _ _ HO2.out (by omega) rfl hb6_2.size (by omega) (by simp [Pdu.be_length])).mono ?_; rintro _ V3 ⟨v3, rfl, ho, hb⟩; have hb6_3 : Below W.heap.size W V3 := hb6_2.trans hb; have HO3 := Lib.hid ho; clear ho hb))
    have HB6 := Lib.hid hb6_3
    clear hb6_0 hb6_1 hb6_2 hb6_3 HSS6
    go_upto_region 7 with fail
    have hb7_0 : Below W.heap.size W V3.drew := HB6.out.drew
    have HSS7 := Lib.hid (show ∀ V, Below W.heap.size W V → V.cell? ⟨w.heap.size, 26, none⟩ = some (.slice da p.data.length dc) from fun V hV => (HCell.out V hV 26).trans (by rw [HDV.out]; rfl))
    go_region_held3 (fun w' => w'.cell? ⟨w.heap.size, 26, none⟩ = some (.slice da p.data.length dc))
      (first | exact HSS7.out _ hb7_0 | exact HSS7.out _ hb7_1 | exact HSS7.out _ hb7_2)
      (first
        | (go_at_call_of 22 (Value.int .i64 0); refine (put_int W.heap.size _ _ (0) 1 _ _ _ (show Owns W.heap.size V3.drew _ _ from HO3.out) rfl rfl hb7_0.size (by omega) (by simp [Pdu.be_length])).mono ?_; rintro _ V4 ⟨v4, rfl, ho, hb⟩; have hb7_1 : Below W.heap.size W V4 := hb7_0.trans hb; have HO4 := Lib.hid ho; clear ho hb)
        | (go_at_call_of 22 (Value.int .i64 (p.data.length : Int)); refine (put_int W.heap.size _ _ (p.data.length) 3 _ _ _ HO4.out rfl rfl hb7_1.size (by omega) (by simp [Pdu.be_length])).mono ?_; rintro _ V5 ⟨v5, rfl, ho, hb⟩; have hb7_2 : Below W.heap.size W V5 := hb7_1.trans hb; have HO5 := Lib.hid ho; clear ho hb))
    have HB7 := Lib.hid hb7_2
    clear hb7_0 hb7_1 hb7_2 HSS7
    go_upto_region 8 with fail
    have hb8_0 : Below W.heap.size W V5.drew := HB7.out.drew
    have HSS8 := Lib.hid (show ∀ V, Below W.heap.size W V → V.cell? ⟨w.heap.size, 4, none⟩ = some (.int .i64 p.wide) ∧ V.cell? ⟨w.heap.size, 5, none⟩ = some (.int .i64 p.short) from fun V hV => ⟨HCell.out V hV 4, HCell.out V hV 5⟩)
    go_region_held3 (fun w' => w'.cell? ⟨w.heap.size, 4, none⟩ = some (.int .i64 p.wide) ∧ w'.cell? ⟨w.heap.size, 5, none⟩ = some (.int .i64 p.short))
      (first | exact HSS8.out _ hb8_0 | exact HSS8.out _ hb8_1 | exact HSS8.out _ hb8_2)
      (first
        | (go_at_call_of 22 (Value.int .i64 p.wide); refine (put_int W.heap.size _ _ (p.wide.toNat) 6 _ _ _ (show Owns W.heap.size V5.drew _ _ from HO5.out) (by omega) rfl hb8_0.size (by omega) (by simp [Pdu.be_length])).mono ?_; rintro _ V6 ⟨v6, rfl, ho, hb⟩; have hb8_1 : Below W.heap.size W V6 := hb8_0.trans hb; have HO6 := Lib.hid ho; clear ho hb)
        | (go_at_call_of 22 (Value.int .i64 p.short); refine (put_int W.heap.size _ _ (p.short.toNat) 2 _ _ _ HO6.out (by omega) rfl hb8_1.size (by omega) (by simp [Pdu.be_length])).mono ?_; rintro _ V7 ⟨v7, rfl, ho, hb⟩; have hb8_2 : Below W.heap.size W V7 := hb8_1.trans hb; have HO7 := Lib.hid ho; clear ho hb))
    have HB8 := Lib.hid hb8_2
    clear hb8_0 hb8_1 hb8_2 HSS8
    go_upto_region 9 with fail
    have hb9_0 : Below W.heap.size W V7.drew := HB8.out.drew
    have HSS9 := Lib.hid (show ∀ V, Below W.heap.size W V → V.cell? ⟨w.heap.size, 6, none⟩ = some (.int .i64 p.tag) ∧ V.cell? ⟨w.heap.size, 7, none⟩ = some (.int .i64 p.word) ∧ V.cell? ⟨w.heap.size, 8, none⟩ = some (.int .i64 p.num) ∧ V.cell? ⟨w.heap.size, 9, none⟩ = some (.int .i64 p.exp) from fun V hV => ⟨HCell.out V hV 6, HCell.out V hV 7, HCell.out V hV 8, HCell.out V hV 9⟩)
    go_region_held3 (fun w' => w'.cell? ⟨w.heap.size, 6, none⟩ = some (.int .i64 p.tag) ∧ w'.cell? ⟨w.heap.size, 7, none⟩ = some (.int .i64 p.word) ∧ w'.cell? ⟨w.heap.size, 8, none⟩ = some (.int .i64 p.num) ∧ w'.cell? ⟨w.heap.size, 9, none⟩ = some (.int .i64 p.exp))
      (first | exact HSS9.out _ hb9_0 | exact HSS9.out _ hb9_1 | exact HSS9.out _ hb9_2 | exact HSS9.out _ hb9_3 | exact HSS9.out _ hb9_4)
      (first
        | (go_at_call_of 22 (Value.int .i64 p.tag); refine (put_int W.heap.size _ _ (p.tag.toNat) 4 _ _ _ (show Owns W.heap.size V7.drew _ _ from HO7.out) (by omega) rfl hb9_0.size (by omega) (by simp [Pdu.be_length])).mono ?_; rintro _ V8 ⟨v8, rfl, ho, hb⟩; have hb9_1 : Below W.heap.size W V8 := hb9_0.trans hb; have HO8 := Lib.hid ho; clear ho hb)
        | (go_at_call_of 22 (Value.int .i64 p.word); refine (put_int W.heap.size _ _ (p.word.toNat) 4 _ _ _ HO8.out (by omega) rfl hb9_1.size (by omega) (by simp [Pdu.be_length])).mono ?_; rintro _ V9 ⟨v9, rfl, ho, hb⟩; have hb9_2 : Below W.heap.size W V9 := hb9_1.trans hb; have HO9 := Lib.hid ho; clear ho hb)
        | (go_at_call_of 22 (Value.int .i64 p.num); refine (put_int W.heap.size _ _ (p.num.toNat) 4 _ _ _ HO9.out (by omega) rfl hb9_2.size (by omega) (by simp [Pdu.be_length])).mono ?_; rintro _ V10 ⟨v10, rfl, ho, hb⟩; have hb9_3 : Below W.heap.size W V10 := hb9_2.trans hb; have HO10 := Lib.hid ho; clear ho hb)
        | (go_at_call_of 22 (Value.int .i64 p.exp); refine (put_int W.heap.size _ _ (p.exp.toNat) 4 _ _ _ HO10.out (by omega) rfl hb9_3.size (by omega) (by simp [Pdu.be_length])).mono ?_; rintro _ V11 ⟨v11, rfl, ho, hb⟩; have hb9_4 : Below W.heap.size W V11 := hb9_3.trans hb; have HO11 := Lib.hid ho; clear ho hb))
    have HB9 := Lib.hid hb9_4
    clear hb9_0 hb9_1 hb9_2 hb9_3 hb9_4 HSS9
    obtain ⟨l0, hl0⟩ : ∃ l0, l0 = [] ++ Pdu.be 1 (Pdu.first p) ++ Pdu.be 1 p.flags.toNat ++ Pdu.be 2 p.info.toNat ++ Pdu.be 1 0 ++ Pdu.be 3 p.data.length ++ Pdu.be 6 p.wide.toNat ++ Pdu.be 2 p.short.toNat ++ Pdu.be 4 p.tag.toNat ++ Pdu.be 4 p.word.toNat ++ Pdu.be 4 p.num.toNat ++ Pdu.be 4 p.exp.toNat := ⟨_, rfl⟩
    have hl32 : l0.length = 32 := by rw [hl0]; simp [Pdu.be_length]
    have HH := Lib.hid (show l0 ++ p.tail = Pdu.hdr p from by rw [hl0]; rfl)
    rw [← hl0] at HO11
    clear hl0 HO1 HO2 HO3 HO4 HO5 HO6 HO7 HO8 HO9 HO10 HB6 HB7 HB8 HB0 c0 c1
    have htl := HP.out.tail
    go_wp2_with fail
    go_loopg [9, 10] 16 (fun g s9 s10 wx => ∃ i : Nat, s10 = .int .i64 i ∧ i + g = 16 ∧ Owns W.heap.size wx s9 (l0 ++ p.tail.take i) ∧ Below W.heap.size W wx)
    case atStart => exact ⟨0, rfl, by omega, by simpa using HO11.out, HB9.out⟩
    case round =>
      obtain ⟨i, rfl, hig, hown, hbel⟩ := hrel
      have HX := Lib.hid hown; clear hown
      have HK := Lib.hid hbel; clear hbel
      have hsz := HK.out.size
      by_cases hi : i < 16
      case pos =>
        have xt : wr.cell? ⟨w.heap.size, 10 + i, none⟩ = some (.int .u8 (p.tb i : Nat)) := (HCell.out wr HK.out (10 + i)).trans (cells_tail p dv i hi)
        have HT := Lib.hid (tail_take p i (by omega))
        have hlen : (l0 ++ p.tail.take i).length + 1 ≤ 140737488355328 := by simp; omega
        go_wp2_with (at_builtin; refine wpList_append_bytes rfl (.tmp 59) (.tmp 64) rfl W.heap.size u9 _ rfl (World.ownsRow.alloc HX.out _) (.slice (some ⟨wr.heap.size, 0, none⟩) 1 1) [p.tb i] rfl (BytesAt.one wr _ _) hlen (by simp; omega) ?_; intro v' w4 hown hgrow)
        go_roundg (gk - 1)
        case measure => omega
        case rel =>
          refine ⟨i + 1, by go_num, by omega, ?_, (HK.out.alloc (by omega) _).grown hgrow (by simp; omega) (fun z hz => (HX.out.from z hz).1)⟩
          rw [HT.out, ← List.append_assoc]; exact hown
      case neg =>
        obtain rfl : i = 16 := by omega
        rw [List.take_of_length_le (by omega), HH.out] at HX
        have hhl := Pdu.hdr_length p htl
        have HBy := Lib.hid (Pdu.hdr_bytes p HP.out.bytes)
        go_upto_if 66 with fail
        go_cut [9] (fun v wx => Owns W.heap.size wx v (Pdu.headed p head) ∧ Below W.heap.size W wx)
        case first =>
          cases head with
          | false =>
            go_wp2_with fail
            go_meet
            exact ⟨HX.out, HK.out⟩
          | true =>
            have HS := Lib.hid (summed02_any W.heap.size u9 u9 _ _ wr HX.out HX.out.bytes HBy.out hsz (by omega) (by omega))
            go_wp2_with fail
            refine HS.out.mono ?_
            rintro e V ⟨v', rfl, ho, hb⟩
            have HO := Lib.hid ho
            have HB := Lib.hid (HK.out.trans hb)
            clear ho hb HS
            go_wp2_with fail
            go_meet
            exact ⟨HO.out, HB.out⟩
        case rest =>
          clear HX HK hsz
          obtain ⟨hown, hbel⟩ := hcut
          have HX := Lib.hid hown; clear hown
          have HK := Lib.hid hbel; clear hbel
          have hsz := HK.out.size
          have xd : wc.cell? ⟨w.heap.size, 26, none⟩ = some (.slice da p.data.length dc) := (HCell.out wc HK.out 26).trans (by rw [HDV.out]; rfl)
          have hhd := Pdu.headed_length p head htl
          have hoff : Pdu.off head ≤ 52 := by unfold Pdu.off; split <;> omega
          have HPd := Lib.hid (padded_any dv p.data wc (HDW.out.below HK.out HDW.out.lies) (by omega))
          rw [HDV.out] at HPd
          have hb1 : (Pdu.padded p.data).length ≤ 1027 := by rw [Pdu.padded_length]; unfold Pdu.pad4; omega
          have hb2 : 0 < p.data.length → 0 < (Pdu.padded p.data).length := by rw [Pdu.padded_length]; unfold Pdu.pad4; omega
          have hb3 : ¬ 0 < p.data.length → (Pdu.padded p.data).length ≤ 0 := by rw [Pdu.padded_length]; unfold Pdu.pad4; omega
          have HByP := Lib.hid (Pdu.padded_bytes HP.out.data)
          obtain ⟨bl, hbl⟩ : ∃ bl, bl = Pdu.padded p.data := ⟨_, rfl⟩
          rw [← hbl] at hb1 hb2 hb3 HByP HPd
          have HBL := Lib.hid hbl; clear hbl
          have HB3 := Lib.hid hb3; clear hb3
          have HB2 := Lib.hid hb2; clear hb2
          go_wp2_with fail
          refine HPd.out.mono ?_
          rintro e V ⟨vb, rfl, ho, hb⟩
          obtain ⟨ba, bc, rfl, _⟩ := (Owns.bytes ho).form
          have HOb := Lib.hid ho
          have hx9 : ∀ z, u9.ownBlock = some z → z < wc.heap.size := fun z hz => (HX.out.from z hz).2
          have hVs := hb.size
          have HX1 := Lib.hid (HX.out.laterO hb)
          have HK1 := Lib.hid (HK.out.trans (hb.mono hsz))
          clear ho hb HPd HX HK xd
          go_upto_region 18 with (at_builtin; refine wpList_append_bytes rfl (.tmp 73) (.tmp 74) rfl W.heap.size u9 _ rfl HX1.out (.slice ba bl.length bc) _ rfl HOb.out.bytes (by omega) (by omega) ?_; intro v' w4 hown hgrow)
          have HO4 := Lib.hid hown
          have HK4 := Lib.hid (HK1.out.grown hgrow (by omega) (fun z hz => (HX1.out.from z hz).1))
          have HB4 := Lib.hid (HOb.out.bytes.keeps (Keeps.of_grown (F := fun z => u9.ownBlock = some z) hgrow (fun z hz => hz)) (HOb.out.lies.mono fun z hz h => by have := hx9 z h; omega))
          have hs4 := HK4.out.size
          clear hown hgrow HX1 HOb HK1
          by_cases hdd : data = true ∧ 0 < p.data.length
          · obtain ⟨rfl, hd0⟩ := hdd
            have hB := HB2.out hd0
            have td : decide ((0 : Int) < (bl.length : Int)) = true := by rw [decide_eq_true_eq]; omega
            have HS := Lib.hid (summed02_any W.heap.size v' _ _ _ w4 HO4.out HB4.out HByP.out hs4 (by rw [List.length_append, hhd]; omega) (by omega))
            have HR := Lib.hid (show Pdu.line p head true = Pdu.headed p head ++ bl ++ Pdu.sumS bl from by unfold Pdu.line; rw [HBL.out]; rw [if_pos (by simpa using hd0)])
            go_wp2_with fail
            refine HS.out.mono ?_
            rintro e V5 ⟨v5, rfl, ho, hb⟩
            have HO5 := Lib.hid ho
            have HK5 := Lib.hid (HK4.out.trans hb)
            clear ho hb HS
            go_wp2_with fail
            go_ret2
            exact ⟨_, rfl, by rw [HR.out]; exact HO5.out.mono (by omega), HBW.out.trans (HK5.out.mono (by omega))⟩
          · have HR := Lib.hid (show Pdu.line p head data = Pdu.headed p head ++ bl from by
              unfold Pdu.line
              rw [HBL.out]
              rw [if_neg (by simpa using hdd), List.append_nil])
            cases data with
            | false =>
              go_wp2_with fail
              go_ret2
              exact ⟨_, rfl, by rw [HR.out]; exact HO4.out.mono (by omega), HBW.out.trans (HK4.out.mono (by omega))⟩
            | true =>
              have hd0 : ¬ 0 < p.data.length := fun h => hdd ⟨rfl, h⟩
              have hB := HB3.out hd0
              have td : decide ((0 : Int) < (bl.length : Int)) = false := by rw [decide_eq_false_iff_not]; omega
              clear hdd
              go_wp2_with fail
              go_ret2
              exact ⟨_, rfl, by rw [HR.out]; exact HO4.out.mono (by omega), HBW.out.trans (HK4.out.mono (by omega))⟩
end Go.Proofs.Ytodmpchnjakchaa
