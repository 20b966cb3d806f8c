/-
  PduRow: the walk.
-/
import Derived.Test.YtodmpchnjakchaaPduRowArgs
import Derived.Test.YtodmpchnjakchaaPduWritesWalk
namespace Go.Proofs.Ytodmpchnjakchaa
open Go.RowKit

def mayRow (l : List PDV) : List PDV := l.filter fun y => Pdu.may y.1
def rowLines (head data : Bool) (l : List PDV) : List Nat := l.flatMap fun y => Pdu.line y.1 head data
def flatPds (l : List PDV) : List Value := l.flatMap fun y => y.cells.toList
theorem flatPds_length (l : List PDV) : (flatPds l).length = l.length * 27 := by
  induction l with
  | nil => rfl
  | cons y l ih =>
    show (y.cells.toList ++ flatPds l).length = _
    rw [List.length_append, ih, show y.cells.toList.length = 27 from rfl, List.length_cons]
    omega
theorem flatPds_get (l : List PDV) : ∀ (i : Nat) (y : PDV), l[i]? = some y → ∀ j, j < 27 → (flatPds l)[i * 27 + j]? = y.cells[j]? := by
  induction l with
  | nil => intro i y h; simp at h
  | cons x l ih =>
    intro i y h j hj
    show (x.cells.toList ++ flatPds l)[i * 27 + j]? = _
    have hx : x.cells.toList.length = 27 := rfl
    cases i with
    | zero =>
      simp at h
      subst h
      rw [Nat.zero_mul, Nat.zero_add, List.getElem?_append_left (by omega)]
      simp
    | succ i =>
      rw [List.getElem?_append_right (by omega), hx, show (i + 1) * 27 + j - 27 = i * 27 + j by omega]
      exact ih i y (by simpa using h) j hj
theorem take_next {α : Type} (l : List α) (i : Nat) (y : α) (h : l[i]? = some y) : l.take (i + 1) = l.take i ++ [y] := by
  obtain ⟨hi, rfl⟩ := List.getElem?_eq_some_iff.1 h
  exact List.take_succ_eq_append_getElem hi
theorem mayRow_yes (l : List PDV) (i : Nat) (y : PDV) (h : l[i]? = some y) (hm : Pdu.may y.1 = true) : mayRow (l.take (i + 1)) = mayRow (l.take i) ++ [y] := by
  rw [take_next l i y h]
  unfold mayRow
  rw [List.filter_append]
  simp [hm]
theorem mayRow_no (l : List PDV) (i : Nat) (y : PDV) (h : l[i]? = some y) (hm : Pdu.may y.1 = false) : mayRow (l.take (i + 1)) = mayRow (l.take i) := by
  rw [take_next l i y h]
  unfold mayRow
  rw [List.filter_append]
  simp [hm]
theorem rowLines_append (head data : Bool) (a b : List PDV) : rowLines head data (a ++ b) = rowLines head data a ++ rowLines head data b := by simp [rowLines]
theorem rowLines_one (head data : Bool) (y : PDV) : rowLines head data [y] = Pdu.line y.1 head data := by simp [rowLines]
theorem flatPds_append (a b : List PDV) : flatPds (a ++ b) = flatPds a ++ flatPds b := by simp [flatPds]
theorem flatPds_one (y : PDV) : flatPds [y] = y.cells.toList := by simp [flatPds]
/-- All in a row are such as a program can hold, and may be written. -/
def RowOk (l : List PDV) : Prop := ∀ y ∈ l, y.1.Ok ∧ Pdu.may y.1 = true
theorem rowLines_short (head data : Bool) (l : List PDV) (h : RowOk l) : (rowLines head data l).length ≤ 1200 * l.length := by
  induction l with
  | nil => exact Nat.zero_le _
  | cons y l ih =>
    have h1 := h y (by simp)
    have h2 := ih fun z hz => h z (by simp [hz])
    have h3 : y.1.data.length ≤ 1024 := by
      have := h1.2
      simp only [Pdu.may, Bool.and_eq_true, decide_eq_true_eq] at this; exact this.2
    have h4 := line_short y.1 head data h1.1.tail h3
    show (Pdu.line y.1 head data ++ rowLines head data l).length ≤ _
    rw [List.length_append, List.length_cons]
    omega
theorem rowLines_bytes (head data : Bool) (l : List PDV) (h : RowOk l) : Crc.Bytes (rowLines head data l) := by
  intro b hb
  obtain ⟨y, hy, hby⟩ := List.mem_flatMap.1 hb
  exact Pdu.line_bytes y.1 head data (h y hy).1.bytes (h y hy).1.data b hby
theorem mayRow_ok {l : List PDV} (h : ∀ y ∈ l, y.1.Ok) : RowOk (mayRow l) := fun y hy => by
  have := List.mem_filter.1 hy
  exact ⟨h y this.1, this.2⟩
theorem rows_apart {base base' : Nat} {w : World} {v v' : Value} {l : List Nat} {n : Nat} {xs : List Value} (h1 : Owns base w v l) (h2 : w.ownsRow base' 25 27 v' n xs) : ∀ k, v.ownBlock = some k → v'.ownBlock ≠ some k := by
  intro k hk hk'
  rcases h1.2 with ⟨rfl, _⟩ | ⟨g, cap, cur, rfl, _, hg, _⟩
  · simp [Value.ownBlock] at hk
  · rcases h2.2 with ⟨rfl, _⟩ | ⟨g', cap', cur', rfl, _, hg', _⟩
    · simp [Value.ownBlock] at hk'
    · simp [Value.ownBlock] at hk hk'
      subst hk hk'
      rw [hg] at hg'
      injection hg' with e
      injection e with _ e2
      exact absurd e2 (by decide)
theorem wpList_load_pdmid {ops : Array Oper} {rest : List Oper} {op : Oper} {a : Act} {w : World} {Q : Exit → Act → World → Prop} (hgd : op.guard = none) (T : TypeId) (x : Operand) (ho : op.op = .load T x)
    (b o : Nat) (hx : a.eval x = .pointer (some ⟨b, o, none⟩)) (y : PDV) (d : TypeDesc) (hu : Try.prog.underlying T = some d) (hd : d.isRow = true) (hi : (Try.prog.info? T).map (·.size) = some 27)
    (hr : w.rangeAt b o y.cells.toList) (h : wpList Try.prog ops Q rest (a.put op.dst (.agg y.cells)) w) : wpList Try.prog ops Q (op :: rest) a w :=
  wpList_load_mid hgd T x ho b o hx y.cells.toList d hr hu hd (by rw [hi]; rfl) h
theorem Try.info_pd : (Try.prog.info? 25).map (fun i => (i.zero, i.size, i.bytes)) = some (some (.agg #[.int .i64 0, .bool false, .int .i64 0, .int .i64 0, .int .i64 0, .int .i64 0, .int .i64 0, .int .i64 0, .int .i64 0, .int .i64 0, .int .u8 0, .int .u8 0, .int .u8 0, .int .u8 0, .int .u8 0, .int .u8 0, .int .u8 0, .int .u8 0, .int .u8 0, .int .u8 0, .int .u8 0, .int .u8 0, .int .u8 0, .int .u8 0, .int .u8 0, .int .u8 0, .slice none 0 0]), 27, 120) := by kernel_rfl
theorem pd_one (y : PDV) (h : y.2.oneCell' = true) : ∀ u ∈ y.cells.toList, u.oneCell' = true := fun u hu => by
  have := all_one_pd y.1 y.2 h
  exact (Array.all_eq_true_iff_forall_mem.1 this) u (by simpa [PDV.cells] using hu)
theorem bytes_onecell {w : World} {v : Value} {l : List Nat} (h : BytesAt w v l) : v.oneCell' = true := by
  obtain ⟨a, c, rfl, _⟩ := h.form
  rfl

set_option maxRecDepth 100000 in
set_option maxHeartbeats 6400000 in
theorem row_any (a : Option Addr) (n c : Nat) (l : List PDV) (head data : Bool) (w : World) (h : PdsAt w a n l) (hn : n ≤ 1048576) :
    Calls Try.prog 7 #[.slice a n c, .bool head, .bool data] w fun e w' => e = .returned (.bool true) ∧ Below w.heap.size w w' := by
  have HNL := Lib.hid h.1
  have HP := Lib.hid h.2
  have hok : ∀ y ∈ l, y.1.Ok := fun y hy => by
    obtain ⟨i, hi, rfl⟩ := List.getElem_of_mem hy
    exact (HP.out i _ (List.getElem?_eq_getElem hi)).2.1
  have HIR := Lib.hid (show (Try.prog.info? 25).map (·.size) = some 27 by kernel_rfl)
  have HUR := Lib.hid (Try.underlying25)
  have HI2 := Lib.hid (show (Try.prog.info? 32).map (·.size) = some 27 by kernel_rfl)
  have HU2 := Lib.hid (Try.underlying32)
  obtain ⟨i0, hi0, hz0, hz1, hz2⟩ := info_parts Try.info_pd
  have HIN := Lib.hid hi0
  have HZ0 := Lib.hid hz0
  have HZ1 := Lib.hid hz1
  have HZ2 := Lib.hid hz2
  clear h hi0 hz0 hz1 hz2
  go_enter Try.func7, Try.ntmps7
  go_wp2_with fail
  refine (new_any w).mono ?_
  rintro e w1 ⟨rfl, ht1, hb1, hs1⟩
  obtain ⟨tb, htb⟩ : ∃ tb, tb = w.heap.size := ⟨_, rfl⟩
  rw [← htb] at ht1 ⊢
  have hsz : w.heap.size ≤ tb ∧ tb ≤ w.heap.size ∧ tb + 1 ≤ w1.heap.size := by omega
  have HBw1 := Lib.hid hb1
  have HT1 := Lib.hid ht1
  clear hs1 htb hb1 ht1
  have HYof : ∀ V, Keeps (· = tb) w1 V → ∀ i y, l[i]? = some y → Hid ((∃ b s, a = some ⟨b, s, none⟩ ∧ V.rangeAt b (s + i * 27) y.cells.toList) ∧ BytesAt V y.2 y.1.data ∧ LiesIn y.2 (· ≠ tb)) := fun V hV i y hy => by
    obtain ⟨⟨b, s, ha, hbl, hc⟩, _, hd, _⟩ := HP.out i y hy
    refine ⟨⟨b, s, ha, fun j v hj => ?_⟩, (hd.later HBw1.out).keeps hV (hd.lies.mono fun k hk => by omega), hd.lies.mono fun k hk => by omega⟩
    have hj27 : j < 27 := (List.getElem?_eq_some_iff.1 hj).1
    have e1 := hV.cell (p := ⟨b, s + i * 27 + j, none⟩) (by simp; omega) (by simp; omega)
    have e2 := HBw1.out.cell (p := ⟨b, s + i * 27 + j, none⟩) hbl
    rw [e1, e2, hc j hj27, ← hj]
    simp
  go_wp2_with fail
  refine (known_any tb false w1 HT1.out).mono ?_
  rintro e w2 ⟨rfl, ⟨d2, ht2⟩, hk2⟩
  have HT2 := Lib.hid ht2
  have HK2 := Lib.hid hk2
  clear ht2 hk2 HT1
  go_wp2_with fail
  go_loopg [8, 9, 10] n (fun g s8 s9 s10 wx => ∃ i : Nat, s10 = .int .i64 i ∧ i + g = n ∧ Owns w1.heap.size wx s8 (rowLines head data (mayRow (l.take i))) ∧ wx.ownsRow w1.heap.size 25 27 s9 (mayRow (l.take i)).length (flatPds (mayRow (l.take i))) ∧ (∃ d', Table wx tb d') ∧ Keeps (· = tb) w1 wx)
  case atStart => exact ⟨0, rfl, by omega, Owns.nil _ _, World.ownsRow_nil _ _ _ _, ⟨d2, HT2.out⟩, HK2.out⟩
  case round =>
    obtain ⟨i, rfl, hig, hall, hmay, ⟨di, hti⟩, hki⟩ := hrel
    have HAll := Lib.hid hall
    have HMay := Lib.hid hmay
    have HTi := Lib.hid hti
    have HKi := Lib.hid hki
    have hsi := hki.size
    clear hall hmay hti hki HT2 HK2
    by_cases hi : i < n
    case pos =>
      have hil : i < l.length := by have := HNL.out; omega
      obtain ⟨y, hy⟩ : ∃ y, l[i]? = some y := ⟨_, List.getElem?_eq_getElem hil⟩
      have HY := Lib.hid hy
      obtain ⟨⟨b, s, ha, hr⟩, hd, hlt⟩ := (HYof wr HKi.out i y hy).out
      have hyok := hok y (List.mem_of_getElem? hy)
      have HAe := Lib.hid ha
      have HR := Lib.hid hr
      have HDy := Lib.hid hd
      have HLt := Lib.hid hlt
      have hii : (i : Int) < (n : Int) := by omega
      have ti : decide ((i : Int) < (n : Int)) = true := by rw [decide_eq_true_eq]; exact hii
      clear hr hd hlt hy
      subst ha
      have HYof' : ∀ V, Keeps (· = tb) w1 V → Hid (V.rangeAt b (s + i * 27) y.cells.toList ∧ BytesAt V y.2 y.1.data) := fun V hV => by
        obtain ⟨⟨b', s', ha', hr'⟩, hd', _⟩ := (HYof V hV i y HY.out).out
        injection ha' with ha'
        injection ha' with e1 e2
        subst e1 e2
        exact ⟨hr', hd'⟩
      go_wp2_with (refine wpList_load_pdmid rfl 25 (.tmp 31) rfl b (s + i * 27) rfl y _ HUR.out rfl HIR.out HR.out ?_)
      refine (given_any y.1 y.2 wr HDy.out).mono ?_
      rintro e w3 ⟨rfl, hb3⟩
      have HK3 := Lib.hid (HKi.out.trans (Keeps.of_below (F := (· = tb)) hb3) (fun _ _ h => h))
      have HT3 := Lib.hid (HTi.out.keeps (Keeps.of_below (F := fun _ => False) hb3) (fun h => h))
      have HAll3 := Lib.hid (HAll.out.laterO hb3)
      have HMay3 := Lib.hid (show w3.ownsRow w1.heap.size 25 27 u9 (mayRow (l.take i)).length (flatPds (mayRow (l.take i))) from (Keeps.of_below (F := fun _ => False) hb3).owns HMay.out (fun _ _ h => h))
      have hs3 := HK3.out.size
      clear hb3 HAll HMay
      have HPr := Lib.hid (print_any y.1 y.2 head data tb di w3 hyok (HYof' w3 HK3.out).out.2 HT3.out HLt.out)
      go_wp2_with fail
      refine HPr.out.mono ?_
      rintro e w4 hpost
      clear HPr
      unfold PrintPost at hpost
      cases hm : Pdu.may y.1 with
      | false =>
        rw [hm, if_neg (by simp)] at hpost
        obtain ⟨rfl, ⟨d4, ht4⟩, hk4⟩ := hpost
        have hmy := mayRow_no l i y HY.out hm
        have HAll4 := Lib.hid (HAll3.out.keepsO hk4 (fun k hk h => by have := HAll3.out.from k hk; omega))
        have HMay4 := Lib.hid (hk4.owns HMay3.out (fun k hk h => by have := World.ownsRow.lt HMay3.out k hk; omega))
        have HK4 := Lib.hid (HK3.out.trans hk4 (fun _ _ h => h))
        have HT4 := Lib.hid ht4
        have HMy := Lib.hid hmy
        clear hm hk4 ht4 hmy HAll3 HMay3
        go_wp2_with fail
        go_roundg (gk - 1)
        case measure => omega
        case rel =>
          refine ⟨i + 1, by go_num, by omega, ?_, ?_, ⟨_, HT4.out⟩, HK4.out⟩
          · rw [HMy.out]; exact HAll4.out
          · rw [HMy.out]; exact HMay4.out
      | true =>
        rw [hm, if_pos rfl] at hpost
        obtain ⟨⟨v, rfl, ho4⟩, ⟨d4, ht4⟩, hk4⟩ := hpost
        obtain ⟨va, vc, rfl, _⟩ := ho4.bytes.form
        have hmy := mayRow_yes l i y HY.out hm
        have hM := mayRow_ok (l := l.take i) (fun y hy => hok y (List.mem_of_mem_take hy))
        have hMs := rowLines_short head data _ hM
        have hMl : (mayRow (l.take i)).length ≤ 1048576 := by
          have h1 : (mayRow (l.take i)).length ≤ (l.take i).length := List.length_filter_le _ _
          rw [List.length_take] at h1
          omega
        have hd1024 : y.1.data.length ≤ 1024 := by simp only [Pdu.may, Bool.and_eq_true, decide_eq_true_eq] at hm; exact hm.2
        have hLs := line_short y.1 head data hyok.tail hd1024
        have HAll4 := Lib.hid (HAll3.out.keepsO hk4 (fun k hk h => by have := HAll3.out.from k hk; omega))
        have HMay4 := Lib.hid (hk4.owns HMay3.out (fun k hk h => by have := World.ownsRow.lt HMay3.out k hk; omega))
        have HK4 := Lib.hid (HK3.out.trans hk4 (fun _ _ h => h))
        have HT4 := Lib.hid ht4
        have HO4 := Lib.hid ho4
        have HMy := Lib.hid hmy
        have hs4 := HK4.out.size
        clear hm hk4 ht4 ho4 hmy HAll3 HMay3 hM
        obtain ⟨M, hMe⟩ : ∃ M, M = mayRow (l.take i) := ⟨_, rfl⟩
        rw [← hMe] at HAll4 HMay4 HMy hMs hMl
        clear hMe
        obtain ⟨ln, hln⟩ : ∃ ln, ln = (Pdu.line y.1 head data).length := ⟨_, rfl⟩
        rw [← hln] at HO4 hLs ⊢
        have HLn := Lib.hid hln
        clear hln
        go_upto_region 12 with (at_builtin; refine wpList_append_bytes rfl (.tmp 41) (.tmp 42) rfl w1.heap.size u8 (rowLines head data M) rfl HAll4.out (.slice va ln vc) (Pdu.line y.1 head data) rfl HO4.out.bytes (by have := HLn.out; omega) (by omega) ?_; intro v5 w5 hown hgrow)
        have hG5 : Keeps (fun z => u8.ownBlock = some z) w4 w5 := Keeps.of_grown hgrow (fun k hk => hk)
        have HAll5 := Lib.hid hown
        have HMay5 := Lib.hid (hG5.owns HMay4.out (fun k hk h => rows_apart HAll4.out HMay4.out k h hk))
        have HK5 := Lib.hid (show Keeps (· = tb) w1 w5 from HK4.out.trans hG5 (fun z h1 h2 => by have := HAll4.out.from z h2; omega))
        have HT5 := Lib.hid (HT4.out.keeps hG5 (fun h => by have := HAll4.out.from tb h; omega))
        have hs5 := HK5.out.size
        have hY5 := (HYof' w5 HK5.out).out
        have HR5 := Lib.hid hY5.1
        have HD5 := Lib.hid hY5.2
        clear hown hgrow hG5 HAll4 HMay4 HT4 HO4 hY5
        go_wp2_with (first
          | refine wpList_load_pdmid rfl 25 (.tmp 47) rfl b (s + i * 27) rfl y _ HUR.out rfl HIR.out HR5.out ?_
          | refine wpList_build_pd rfl (.tmp 48) rfl y rfl ?_
          | (at_builtin; refine wpList_append_own (w5.alloc (.cells y.cells 25)) rfl (.tmp 44) (.tmp 49) 47 rfl w1.heap.size 25 i0 _ 27 120 Try.underlying47 HIN.out HZ0.out HZ1.out HZ2.out rfl (by decide) u9 M.length (flatPds M) rfl (World.ownsRow.alloc HMay5.out _) ⟨w5.heap.size, 0, none⟩ 1 1 y.cells.toList rfl rfl (fun j u hj => by rw [Addr.add_mid, Nat.zero_add, World.cell?_alloc_new]; simpa using hj) (pd_one y (bytes_onecell HD5.out)) (by unfold maxLen; omega) (by omega) (by simp; omega) ?_; intro v6 w6 hown6 hgrow6 hnil6))
        have hG6 : Keeps (fun z => u9.ownBlock = some z) w5 w6 := ((Keeps.refl _ w5).alloc _).trans (Keeps.of_grown (F := fun z => u9.ownBlock = some z) hgrow6 (fun k hk => hk)) (fun _ _ h => h)
        have HMay6 := Lib.hid hown6
        have HAll6 := Lib.hid (HAll5.out.keepsO hG6 (fun k hk h => rows_apart HAll5.out HMay5.out k hk h))
        have HK6 := Lib.hid (show Keeps (· = tb) w1 w6 from HK5.out.trans hG6 (fun z h1 h2 => by have := World.ownsRow.lt HMay5.out z h2; omega))
        have HT6 := Lib.hid (HT5.out.keeps hG6 (fun h => by have := World.ownsRow.lt HMay5.out tb h; omega))
        clear hown6 hgrow6 hnil6 hG6
        go_roundg (gk - 1)
        case measure => omega
        case rel =>
          refine ⟨i + 1, by go_num, by omega, ?_, ?_, ⟨_, HT6.out⟩, HK6.out⟩
          · rw [HMy.out, rowLines_append, rowLines_one]; exact HAll6.out
          · rw [HMy.out, List.length_append, flatPds_append, flatPds_one]; exact HMay6.out
    case neg =>
      have hM := mayRow_ok (l := l.take i) (fun y hy => hok y (List.mem_of_mem_take hy))
      have hMs := rowLines_short head data _ hM
      have hMl : (mayRow (l.take i)).length ≤ 1048576 := by
        have h1 : (mayRow (l.take i)).length ≤ (l.take i).length := List.length_filter_le _ _
        rw [List.length_take] at h1
        omega
      have hMd : ∀ V, Keeps (· = tb) w1 V → ∀ y ∈ mayRow (l.take i), Hid (BytesAt V y.2 y.1.data) := fun V hV y hy => by
        have hyl : y ∈ l := List.mem_of_mem_take (List.mem_filter.1 hy).1
        obtain ⟨k, hk, rfl⟩ := List.getElem_of_mem hyl
        exact (HYof V hV k _ (List.getElem?_eq_getElem hk)).out.2.1
      have ti : decide ((i : Int) < (n : Int)) = false := by rw [decide_eq_false_iff_not]; omega
      obtain ⟨M, hMe⟩ : ∃ M, M = mayRow (l.take i) := ⟨_, rfl⟩
      rw [← hMe] at HAll HMay hM hMs hMl hMd
      clear hMe
      have HMok := Lib.hid hM
      have HMd := hMd
      clear hM hMd HYof
      obtain ⟨m, hm⟩ : ∃ m, m = M.length := ⟨_, rfl⟩
      obtain ⟨a8, c8, rfl, _⟩ := HAll.out.bytes.form
      have hroom8 := HAll.out.room
      obtain ⟨n8, hn8⟩ : ∃ n8, n8 = (rowLines head data M).length := ⟨_, rfl⟩
      rw [← hn8] at HAll hroom8 ⊢
      obtain ⟨am, cm, rfl⟩ : ∃ am cm, u9 = .slice am M.length cm := by
        rcases HMay.out.2 with ⟨rfl, h0⟩ | ⟨g, cap, cur, rfl, _⟩
        · exact ⟨none, 0, by rw [h0]⟩
        · exact ⟨_, _, rfl⟩
      have HAm := Lib.hid (show 0 < M.length → ∃ gm, am = some ⟨gm, 0, none⟩ ∧ w1.heap.size ≤ gm ∧ gm < wr.heap.size ∧ ∀ j, j < M.length * 27 → wr.cell? ⟨gm, j, none⟩ = (flatPds M)[j]? from fun h0 => by
        rcases HMay.out.2 with ⟨h1, h2⟩ | ⟨g, cap, cur, hv, hb, hg, _⟩
        · omega
        · injection hv with hv
          subst hv
          have hlt := World.ownsRow.lt HMay.out g rfl
          exact ⟨g, rfl, hlt.1, hlt.2, fun j hj => World.ownsRow.cellAt HMay.out j hj⟩)
      rw [← hm] at HAm hMs hMl ⊢
      have HM := Lib.hid hm
      clear hm HMay
      have hl8 : LiesIn (.slice a8 n8 c8) (fun z => w1.heap.size ≤ z) := HAll.out.lies.mono fun z h => h.1
      have HB8 := Lib.hid (HAll.out.bytes)
      clear HAll hn8
      obtain ⟨wE, hwE⟩ : ∃ wE, wE = wr := ⟨_, rfl⟩
      subst hwE
      have hsE := HKi.out.size
      go_wp2_with fail
      go_loopg [8, 13] m (fun g s8 s13 wx => ∃ (k : Nat) (ak : Option Addr) (nk ck : Nat), s13 = .int .i64 k ∧ k + g = m ∧ s8 = .slice ak nk ck ∧ nk ≤ ck ∧ BytesAt wx (.slice ak nk ck) (rowLines head data (M.drop k)) ∧ LiesIn (.slice ak nk ck) (fun z => w1.heap.size ≤ z) ∧ (∃ d', Table wx tb d') ∧ Keeps (· = tb) wE wx)
      case atStart => exact ⟨0, a8, n8, c8, rfl, by omega, rfl, hroom8, HB8.out, hl8, ⟨di, HTi.out⟩, Keeps.refl _ _⟩
      case round =>
        clear HB8 hl8 HTi hroom8
        obtain ⟨k, ak, nk, ck, rfl, hkg, rfl, hroom, hbk, hlk, ⟨dk, htk⟩, hkk⟩ := hrel
        have HBk := Lib.hid hbk
        have HTk := Lib.hid htk
        have HKk := Lib.hid hkk
        have HK1k := Lib.hid (show Keeps (· = tb) w1 wr from HKi.out.trans hkk (fun _ _ h => h))
        have hsk := hkk.size
        have hnk := hbk.length
        clear hbk htk hkk
        by_cases hkm : k < m
        case neg =>
          have hk0 : nk = 0 := by
            rw [← hnk, List.drop_eq_nil_of_le (by have := HM.out; omega)]
            rfl
          have tk : decide ((k : Int) < (m : Int)) = false := by rw [decide_eq_false_iff_not]; omega
          have hz : ((nk : Int) == 0) = true := by rw [beq_iff_eq]; omega
          clear hnk
          have HZ := Lib.hid hk0
          clear hk0
          go_wp2_with fail
          go_ret
          exact ⟨rfl, HBw1.out.trans (HK1k.out.below (B := w.heap.size) (by omega) (fun z h1 h2 => by omega))⟩
        case pos =>
          have hkM : k < M.length := by have := HM.out; omega
          obtain ⟨y, hy⟩ : ∃ y, M[k]? = some y := ⟨_, List.getElem?_eq_getElem hkM⟩
          have hyM : y ∈ M := List.mem_of_getElem? hy
          obtain ⟨hyok, hymay⟩ := HMok.out y hyM
          have HYM := Lib.hid hyM
          have HYk := Lib.hid hy
          have hdrop : M.drop k = y :: M.drop (k + 1) := by
            rw [List.drop_eq_getElem_cons hkM]
            congr 1
            have := List.getElem?_eq_getElem hkM
            rw [hy] at this
            injection this with this
            exact this.symm
          obtain ⟨rest, hrest⟩ : ∃ rest, rest = rowLines head data (M.drop (k + 1)) := ⟨_, rfl⟩
          have hlines : rowLines head data (M.drop k) = Pdu.line y.1 head data ++ rest := by
            rw [hdrop, hrest]
            rfl
          have hln48 : 48 ≤ (Pdu.line y.1 head data).length := by
            have h1 := Pdu.headed_length y.1 head hyok.tail
            have h3 : 48 ≤ Pdu.off head := by unfold Pdu.off; split <;> omega
            unfold Pdu.line
            rw [List.length_append, List.length_append]
            omega
          have hdrb : Crc.Bytes (rowLines head data (M.drop k)) := rowLines_bytes head data _ (fun z hz => HMok.out z (List.mem_of_mem_drop hz))
          have hdrs : (rowLines head data (M.drop k)).length ≤ 1200 * (M.drop k).length := rowLines_short head data _ (fun z hz => HMok.out z (List.mem_of_mem_drop hz))
          rw [List.length_drop] at hdrs
          rw [hlines] at HBk hnk hdrb hdrs
          have HRest := Lib.hid hrest
          have hPs := Pdu.parse_line y.1 head data rest hyok.tail hymay
          obtain ⟨ln, hln⟩ : ∃ ln, ln = (Pdu.line y.1 head data).length := ⟨_, rfl⟩
          rw [← hln] at hPs hln48
          have hnk2 : nk = ln + rest.length := by rw [← hnk, List.length_append, hln]
          have HPs := Lib.hid hPs
          have HNk := Lib.hid hnk2
          have hlnk : ln ≤ nk := by omega
          have HLn := Lib.hid hln
          have hnkb : nk ≤ 9223372036854775807 := by have := HM.out; omega
          obtain ⟨gk8, ok8, rfl, hgl8, _⟩ := HBk.out.at 0 (by rw [hnk]; omega)
          have hg8 := hlk ⟨gk8, ok8, none⟩ nk ck rfl (by omega)
          simp only at hg8
          have hl8t : LiesIn (.slice (some ⟨gk8, ok8, none⟩) nk ck) (· ≠ tb) := fun a n c e hn => by injection e with e1 e2 e3; injection e1 with e1; rw [← e1]; simp; omega
          have HPa := Lib.hid (parse_any _ (some ⟨gk8, ok8, none⟩) nk ck (Pdu.line y.1 head data ++ rest) head data 1024 tb dk wr rfl HBk.out hdrb hroom hnkb ⟨by omega, by omega⟩ HTk.out hl8t)
          obtain ⟨gm, hgm, hgm1, hgm2, hgmc⟩ := HAm.out (by omega)
          have HGm := Lib.hid hgmc
          subst hgm
          have tk : decide ((k : Int) < (m : Int)) = true := by rw [decide_eq_true_eq]; omega
          have hki : (k : Int) < (m : Int) := by omega
          clear hy hyM hdrop hrest hlines hdrb hdrs hPs hln hnk hnk2 hgmc hlk hymay
          go_wp2_with fail
          refine HPa.out.mono ?_
          rintro e w7 hpost
          unfold ParsePost at hpost
          rw [HPs.out] at hpost
          obtain ⟨ev, rfl, ho7, ⟨d7, ht7⟩, hk7⟩ := hpost
          obtain ⟨ea, ec, rfl, _⟩ := ho7.bytes.form
          obtain ⟨en, hen⟩ : ∃ en, en = (y.1, ln, (0 : Int)).1.data.length := ⟨_, rfl⟩
          rw [← hen] at ho7 ⊢
          have HO7 := Lib.hid ho7
          have HT7 := Lib.hid ht7
          have HK7 := Lib.hid (HKk.out.trans hk7 (fun _ _ h => h))
          have hs7 := hk7.size
          have hk7r := Lib.hid hk7
          clear hen ho7 ht7 hk7 HPa HTk HKk
          obtain ⟨P, hP⟩ : ∃ x, x = w7.heap.size := ⟨_, rfl⟩
          go_upto_region 17 with (refine wpList_store_pd rfl 32 (.tmp 14) (.tmp 63) rfl w7.heap.size Pdu.pdZero (y.1) (.slice none 0 0) (.slice ea en ec) rfl rfl (fun j => show (w7.alloc (.cells #[.int .i64 0, .bool false, .int .i64 0, .int .i64 0, .int .i64 0, .int .i64 0, .int .i64 0, .int .i64 0, .int .i64 0, .int .i64 0, .int .u8 0, .int .u8 0, .int .u8 0, .int .u8 0, .int .u8 0, .int .u8 0, .int .u8 0, .int .u8 0, .int .u8 0, .int .u8 0, .int .u8 0, .int .u8 0, .int .u8 0, .int .u8 0, .int .u8 0, .int .u8 0, .slice none 0 0] 32)).cell? _ = _ from World.cell?_alloc_new _ _ _ _) (fun j => frozen_new _ _ _ _) rfl HI2.out ?_; intro w8 hc hf hk hs; have HCP := Lib.hid hc; have HFP := Lib.hid hf; have HKP := Lib.hid ((((Keeps.refl (fun z => z = w7.heap.size) w7).alloc _).trans hk (fun _ _ h => h)).below (B := w7.heap.size) (Nat.le_refl _) (fun z h1 h2 => by omega)); have hsP : w8.heap.size = w7.heap.size + 1 := (by rw [hs]; simp); clear hc hf hk hs)
          rw [← hP]
          rw [← hP] at HCP HFP hsP
          have hleP : P ≤ w7.heap.size ∧ w7.heap.size ≤ P ∧ P + 1 ≤ w8.heap.size ∧ w8.heap.size ≤ P + 1 := by omega
          clear hP hsP
          have hs8 := HKP.out.size
          have HK8 := Lib.hid (show Keeps (· = tb) wE w8 from HK7.out.trans (Keeps.of_below (F := (· = tb)) HKP.out) (fun _ _ h => h))
          have HT8 := Lib.hid (HT7.out.keeps (Keeps.of_below (F := fun _ => False) HKP.out) (fun h => h))
          have HK18 := Lib.hid (show Keeps (· = tb) w1 w8 from HKi.out.trans HK8.out (fun _ _ h => h))
          have HMof9 : ∀ V, Below w8.heap.size w8 V → Hid (V.rangeAt gm (k * 27) y.cells.toList) := fun V hV0 j v hj => by
            have hV := HK8.out.trans (Keeps.of_below (F := (· = tb)) hV0) (fun _ _ h => h)
            have hj27 : j < 27 := (List.getElem?_eq_some_iff.1 hj).1
            have e1 := hV.cell (p := ⟨gm, k * 27 + j, none⟩) (by simp; omega) (by simp; omega)
            rw [e1, HGm.out _ (by have := HM.out; omega), flatPds_get M k y HYk.out j hj27, ← hj]
            simp
          have HQof9 : ∀ V, Below w8.heap.size w8 V → Hid (∀ j, V.cell? ⟨P, j, none⟩ = (y.1.cells (.slice ea en ec))[j]?) := fun V hV j => (hV.cell (p := ⟨P, j, none⟩) (by simp; omega)).trans (HCP.out j)
          have HDof9 : ∀ V, Below w8.heap.size w8 V → Hid (BytesAt V y.2 y.1.data) := fun V hV0 => HMd V (HK18.out.trans (Keeps.of_below (F := (· = tb)) hV0) (fun _ _ h => h)) y HYM.out
          have HEof9 : ∀ V, Below w8.heap.size w8 V → Hid (BytesAt V (.slice ea en ec) y.1.data) := fun V hV => (HO7.out.bytes.below HKP.out (HO7.out.lies.mono fun z h => h.2)).below hV (HO7.out.lies.mono fun z h => by omega)
          have hdl : y.1.data.length ≤ 9223372036854775807 := by
            have h1 := (HMok.out y HYM.out).2
            have : y.1.data.length ≤ 1024 := by simp only [Pdu.may, Bool.and_eq_true, decide_eq_true_eq] at h1; exact h1.2
            omega
          have HDl := Lib.hid hdl
          have y1 : decide ((ln : Int) < 48) = false := by rw [decide_eq_false_iff_not]; omega
          have y2 : decide ((nk : Int) < (ln : Int)) = false := by rw [decide_eq_false_iff_not]; omega
          clear HCP HFP HO7 HT7 HK7 hdl HGm
          go_upto_region 17 with fail
          have hk0 : Below w8.heap.size w8 w8.drew := (Below.refl _ _).drew
          refine wp_region_held_drew (S := fun w' => Below w8.heap.size w8 w') (by kernel_rfl) hk0 (fun hHeld => ?_)
          refine wpAnyH_take (i := 0) (v := .int .i64 0) ops_at0 (by kernel_rfl) (by kernel_rfl) (by kernel_rfl) (fun _ _ _ h => h) (Or.inl ⟨by rfl, fun V hV => ?_⟩) hHeld ?_
          · go_simp
          simp only [Act.put, List.setIfInBounds_toArray, List.set_cons_zero, List.set_cons_succ]
          refine wpAnyH_take (i := 1) (v := .bool false) ops_at1 (by kernel_rfl) (by kernel_rfl) (by kernel_rfl) (fun _ _ _ h => h) (Or.inl ⟨by rfl, fun V hV => ?_⟩) hHeld ?_
          · go_simp
          simp only [Act.put, List.setIfInBounds_toArray, List.set_cons_zero, List.set_cons_succ]
          refine wpAnyH_take (i := 2) (v := .bool false) ops_at2 (by kernel_rfl) (by kernel_rfl) (by kernel_rfl) (fun _ _ _ h => h) (Or.inl ⟨by rfl, fun V hV => ?_⟩) hHeld ?_
          · go_simp
          simp only [Act.put, List.setIfInBounds_toArray, List.set_cons_zero, List.set_cons_succ]
          refine wpAnyH_take (i := 3) (v := .int .i64 (ln : Int)) ops_at3 (by kernel_rfl) (by kernel_rfl) (by kernel_rfl) (fun _ _ _ h => h) (Or.inl ⟨by rfl, fun V hV => ?_⟩) hHeld ?_
          · go_simp
          simp only [Act.put, List.setIfInBounds_toArray, List.set_cons_zero, List.set_cons_succ]
          refine wpAnyH_take (i := 4) (v := .bool false) ops_at4 (by kernel_rfl) (by kernel_rfl) (by kernel_rfl) (fun _ _ _ h => h) (Or.inl ⟨by rfl, fun V hV => ?_⟩) hHeld ?_
          · go_simp
          simp only [Act.put, List.setIfInBounds_toArray, List.set_cons_zero, List.set_cons_succ]
          refine wpAnyH_take (i := 5) (v := .bool false) ops_at5 (by kernel_rfl) (by kernel_rfl) (by kernel_rfl) (fun _ _ _ h => h) (Or.inl ⟨by rfl, fun V hV => ?_⟩) hHeld ?_
          · go_simp
          simp only [Act.put, List.setIfInBounds_toArray, List.set_cons_zero, List.set_cons_succ]
          refine wpAnyH_take (i := 6) (v := .bool false) ops_at6 (by kernel_rfl) (by kernel_rfl) (by kernel_rfl) (fun _ _ _ h => h) (Or.inl ⟨by rfl, fun V hV => ?_⟩) hHeld ?_
          · go_simp
          simp only [Act.put, List.setIfInBounds_toArray, List.set_cons_zero, List.set_cons_succ]
          refine wpAnyH_take (i := 7) (v := .int .i64 (ln : Int)) ops_at7 (by kernel_rfl) (by kernel_rfl) (by kernel_rfl) (fun _ _ _ h => h) (Or.inl ⟨by rfl, fun V hV => ?_⟩) hHeld ?_
          · go_simp
          simp only [Act.put, List.setIfInBounds_toArray, List.set_cons_zero, List.set_cons_succ]
          refine wpAnyH_take (i := 8) (v := .slice (some ⟨gk8, ok8, none⟩) nk ck) ops_at8 (by kernel_rfl) (by kernel_rfl) (by kernel_rfl) (fun _ _ _ h => h) (Or.inl ⟨by rfl, fun V hV => ?_⟩) hHeld ?_
          · go_simp
          simp only [Act.put, List.setIfInBounds_toArray, List.set_cons_zero, List.set_cons_succ]
          refine wpAnyH_take (i := 9) (v := .int .i64 (nk : Int)) ops_at9 (by kernel_rfl) (by kernel_rfl) (by kernel_rfl) (fun _ _ _ h => h) (Or.inl ⟨by rfl, fun V hV => ?_⟩) hHeld ?_
          · go_simp
          simp only [Act.put, List.setIfInBounds_toArray, List.set_cons_zero, List.set_cons_succ]
          refine wpAnyH_take (i := 10) (v := .bool false) ops_at10 (by kernel_rfl) (by kernel_rfl) (by kernel_rfl) (fun _ _ _ h => h) (Or.inl ⟨by rfl, fun V hV => ?_⟩) hHeld ?_
          · go_simp
          simp only [Act.put, List.setIfInBounds_toArray, List.set_cons_zero, List.set_cons_succ]
          refine wpAnyH_take (i := 11) (v := .bool false) ops_at11 (by kernel_rfl) (by kernel_rfl) (by kernel_rfl) (fun _ _ _ h => h) (Or.inl ⟨by rfl, fun V hV => ?_⟩) hHeld ?_
          · go_simp
          simp only [Act.put, List.setIfInBounds_toArray, List.set_cons_zero, List.set_cons_succ]
          refine wpAnyH_take (i := 12) (v := .bool false) ops_at12 (by kernel_rfl) (by kernel_rfl) (by kernel_rfl) (fun _ _ _ h => h) (Or.inl ⟨by rfl, fun V hV => ?_⟩) hHeld ?_
          · go_simp
          simp only [Act.put, List.setIfInBounds_toArray, List.set_cons_zero, List.set_cons_succ]
          refine wpAnyH_take (i := 13) (v := .slice (some ⟨gm, 0, none⟩) m cm) ops_at13 (by kernel_rfl) (by kernel_rfl) (by kernel_rfl) (fun _ _ _ h => h) (Or.inl ⟨by rfl, fun V hV => ?_⟩) hHeld ?_
          · go_simp
          simp only [Act.put, List.setIfInBounds_toArray, List.set_cons_zero, List.set_cons_succ]
          refine wpAnyH_take (i := 14) (v := .int .i64 (k : Int)) ops_at14 (by kernel_rfl) (by kernel_rfl) (by kernel_rfl) (fun _ _ _ h => h) (Or.inl ⟨by rfl, fun V hV => ?_⟩) hHeld ?_
          · go_simp
          simp only [Act.put, List.setIfInBounds_toArray, List.set_cons_zero, List.set_cons_succ]
          refine wpAnyH_take (i := 15) (v := .pointer (some ⟨gm, k * 27, none⟩)) ops_at15 (by kernel_rfl) (by kernel_rfl) (by kernel_rfl) (fun _ _ _ h => h) (Or.inl ⟨by rfl, fun V hV => ?_⟩) hHeld ?_
          · go_simp
          simp only [Act.put, List.setIfInBounds_toArray, List.set_cons_zero, List.set_cons_succ]
          refine wpAnyH_take (i := 16) ops_at16 (by kernel_rfl) (by kernel_rfl) (by kernel_rfl) (fun _ _ _ h => h) (yieldsIf_load_mid (by rfl) 25 _ rfl gm (k * 27) rfl y.cells.toList _ (fun V hV => (HMof9 V hV).out) HUR.out rfl (by rw [HIR.out]; rfl)) hHeld ?_
          simp only [Act.put, List.setIfInBounds_toArray, List.set_cons_zero, List.set_cons_succ]
          refine wpAnyH_take (i := 17) ops_at17 (by kernel_rfl) (by kernel_rfl) (by kernel_rfl) (fun _ _ _ h => h) (yieldsIf_load_mid (by rfl) 32 _ rfl P 0 rfl ((y.1).cells (.slice ea en ec)).toList _ (fun V hV => pd_range (y.1) _ _ _ (HQof9 V hV).out) HU2.out rfl (by rw [HI2.out]; rfl)) hHeld ?_
          simp only [Act.put, List.setIfInBounds_toArray, List.set_cons_zero, List.set_cons_succ]
          refine wpAnyH_ready (rs := [18]) (by kernel_rfl) (by simp) ?_
          refine AllReadyH.cons ops_at18 (fun K hK => ?_) AllReadyH.nil
          rw [if_pos (by rfl)]
          go_simp
          refine (told_any y.1 (.slice ea en ec) _ (HEof9 _ hk0).out).mono ?_
          rintro e V1 ⟨rfl, hb⟩
          have hk1 : Below w8.heap.size w8 V1 := hk0.trans (hb.mono hk0.size)
          clear hb
          go_wp2_with fail
          refine hK.out _ _ hk1 (fun hHeld => ?_)
          clear hK K
          refine wpAnyH_ready (rs := [19]) (by kernel_rfl) (by simp) ?_
          refine AllReadyH.cons ops_at19 (fun K hK => ?_) AllReadyH.nil
          rw [if_pos (by rfl)]
          go_simp
          refine (same18_refl y.1 y.2 _ _ (HDof9 _ hk1).out (HEof9 _ hk1).out HDl.out).mono ?_
          rintro e V2 ⟨rfl, hb⟩
          have hk2 : Below w8.heap.size w8 V2 := hk1.trans (hb.mono hk1.size)
          clear hb
          go_wp2_with fail
          refine hK.out _ _ hk2 (fun hHeld => ?_)
          clear hK K
          refine wpAnyH_take (i := 20) (v := .bool false) ops_at20 (by kernel_rfl) (by kernel_rfl) (by kernel_rfl) (fun _ _ _ h => h) (Or.inl ⟨by rfl, fun V hV => ?_⟩) hHeld ?_
          · go_simp
          simp only [Act.put, List.setIfInBounds_toArray, List.set_cons_zero, List.set_cons_succ]
          refine wpAnyH_take (i := 21) (v := .bool false) ops_at21 (by kernel_rfl) (by kernel_rfl) (by kernel_rfl) (fun _ _ _ h => h) (Or.inl ⟨by rfl, fun V hV => ?_⟩) hHeld ?_
          · go_simp
          simp only [Act.put, List.setIfInBounds_toArray, List.set_cons_zero, List.set_cons_succ]
          refine wpAnyH_done (by kernel_rfl) ?_ _
          have HBn := Lib.hid (show BytesAt V2 (.slice (some ⟨gk8, ok8, none⟩) nk ck) (Pdu.line y.1 head data ++ rest) from HBk.out.keeps ((hk7r.out.trans (Keeps.of_below (F := (· = tb)) HKP.out) (fun _ _ h => h)).trans (Keeps.of_below (F := (· = tb)) hk2) (fun _ _ h => h)) hl8t)
          have HTn := Lib.hid (HT8.out.keeps (Keeps.of_below (F := fun _ => False) hk2) (fun h => h))
          have HKn := Lib.hid (show Keeps (· = tb) wE V2 from HK8.out.trans (Keeps.of_below (F := (· = tb)) hk2) (fun _ _ h => h))
          have hin0 : (ln : Int) ≤ (nk : Int) := by omega
          clear HMof9 HQof9 HDof9 HEof9 HKP HBk HT8 hk0 hk1 hk2 y1 y2 HK8 HK18 hk7r
          have HRN := Lib.hid (show rowLines head data (M.drop (k + 1)) = rest from HRest.out.symm)
          by_cases hcl : ck = ln
          case pos =>
            have hr0 : rest = [] := List.eq_nil_of_length_eq_zero (by have := HNk.out; omega)
            have hnl : nk = ln := by omega
            have HR0 := Lib.hid hr0
            clear hr0
            subst hcl
            subst hnl
            go_wp2_with fail
            go_roundg (gk - 1)
            case measure => omega
            case rel => exact ⟨k + 1, some ⟨gk8, ok8, none⟩, 0, 0, by go_num, by omega, by simp, Nat.le_refl _, by rw [HRN.out, HR0.out]; exact .inl ⟨rfl, _, _, rfl, fun h => by cases h⟩, fun a n c e hn => by injection e with e1 e2 e3; omega, ⟨_, HTn.out⟩, HKn.out⟩
          case neg =>
            have HBp := Lib.hid (show BytesAt V2 (.slice (some ⟨gk8, ok8 + ln, none⟩) (nk - ln) (ck - ln)) rest from by
              have h := HBn.out.part ln nk (ck - ln) (by omega) (Nat.le_refl _)
              rw [List.take_of_length_le (by rw [HBn.out.length]; exact Nat.le_refl _), HLn.out, List.drop_left] at h
              rw [HLn.out]
              exact h)
            go_wp2_with fail
            go_roundg (gk - 1)
            case measure => omega
            case rel => exact ⟨k + 1, some ⟨gk8, ok8 + ln, none⟩, nk - ln, ck - ln, by go_num, by omega, rfl, by omega, by rw [HRN.out]; exact HBp.out, fun a n c e hn => by injection e with e1 e2 e3; injection e1 with e1; rw [← e1]; exact hg8, ⟨_, HTn.out⟩, HKn.out⟩
end Go.Proofs.Ytodmpchnjakchaa
