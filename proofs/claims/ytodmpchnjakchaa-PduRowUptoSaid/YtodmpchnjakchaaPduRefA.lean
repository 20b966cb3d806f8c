/-
  PDUs: the document's small functions: Same, Number, Summed, padded.
-/
import Derived.Test.YtodmpchnjakchaaPduBase
import Derived.Deep.QuietTactic
import Derived.BigQuiet
namespace Go.Proofs.Ytodmpchnjakchaa
open Go.RowKit

theorem BytesAt.at {w : World} {a : Option Addr} {n c : Nat} {l : List Nat} (h : BytesAt w (.slice a n c) l) (k : Nat) (hk : k < l.length) : ∃ b o, a = some ⟨b, o, none⟩ ∧ b < w.heap.size ∧ w.cell? ⟨b, o + k, none⟩ = some (.int .u8 (l.getD k 0 : Nat)) := by
  have hl := h.lies
  rcases h with ⟨rfl, _⟩ | ⟨b, o, c', e, hc⟩
  · simp at hk
  · injection e with e1 e2 e3
    exact ⟨b, o, e1, hl _ _ _ (by rw [e1]) (by omega), hc k hk⟩
theorem below_drewN {B : Nat} {a b : World} (h : Below B a b) (n : Nat) : Below B a (b.drewN n) := by
  rw [drewN_eq]; exact ⟨h.os, h.tape, h.output, h.size, h.block⟩

set_option maxRecDepth 100000 in
set_option maxHeartbeats 3200000 in
/-- Are bytes the same? -/
theorem same_any (va vb : Value) (la lb : List Nat) (w : World) (ha : BytesAt w va la) (hb : BytesAt w vb lb) (hl : la.length ≤ 9223372036854775807) :
    Calls Try.prog 13 #[va, vb] w fun e w' => e = .returned (.bool (decide (la = lb))) ∧ Below w.heap.size w w' := by
  obtain ⟨aa, ac, rfl, _⟩ := ha.form
  obtain ⟨ba, bc, rfl, _⟩ := hb.form
  have HA := Lib.hid ha; clear ha
  have HB := Lib.hid hb; clear hb
  by_cases hlen : la.length = lb.length
  case neg =>
    have t0 : ((la.length : Int) == (lb.length : Int)) = false := by rw [beq_eq_false_iff_ne]; omega
    have HF := Lib.hid (show decide (la = lb) = false from by rw [decide_eq_false_iff_not]; exact fun h => hlen (by rw [h]))
    clear hlen
    go_enter Try.func13, Try.ntmps13
    go_wp2_with fail
    go_ret
    exact ⟨by rw [HF.out]; rfl, Below.refl _ _⟩
  case pos =>
    have t0 : ((la.length : Int) == (lb.length : Int)) = true := by rw [beq_iff_eq]; omega
    have HN := Lib.hid hlen
    go_enter Try.func13, Try.ntmps13
    go_wp2_with fail
    clear t0
    go_loopg [5] la.length (fun g s5 wx => ∃ i m : Nat, s5 = .int .i64 i ∧ i + g = la.length ∧ wx = w.drewN m ∧ la.take i = lb.take i)
    case atStart => exact ⟨0, 0, rfl, by omega, rfl, by simp⟩
    case round =>
      obtain ⟨i, m, rfl, hig, rfl, htk⟩ := hrel
      have HT := Lib.hid htk; clear htk
      by_cases hi : i < la.length
      case neg =>
        have HTr := Lib.hid (show decide (la = lb) = true from by
          rw [decide_eq_true_eq]
          have := HT.out
          rwa [List.take_of_length_le (by omega), List.take_of_length_le (by omega)] at this)
        go_wp2_with fail
        go_ret
        exact ⟨by rw [HTr.out]; rfl, below_drewN (Below.refl _ _) m⟩
      case pos =>
        obtain ⟨b, o, rfl, hbl, xa⟩ := HA.out.at i hi
        obtain ⟨b', o', rfl, hbl', xb⟩ := HB.out.at i (by omega)
        have HE := Lib.hid (show la.getD i 0 = lb.getD i 0 → la.take (i + 1) = lb.take (i + 1) from fun he => by
          rw [List.take_succ_eq_append_getElem hi, List.take_succ_eq_append_getElem (by omega), HT.out]
          simp [List.getD, hi, show i < lb.length by omega] at he
          rw [he])
        have HD := Lib.hid (show la.getD i 0 ≠ lb.getD i 0 → decide (la = lb) = false from fun hne => by
          rw [decide_eq_false_iff_not]; exact fun h => hne (by rw [h]))
        generalize la.getD i 0 = x at *
        generalize lb.getD i 0 = y at *
        by_cases hxy : x = y
        · have tb : ((x : Int) == (y : Int)) = true := by rw [beq_iff_eq]; omega
          have HE2 := Lib.hid (HE.out hxy)
          clear hxy HE HD
          go_wp2_with fail
          go_quiet (fail)
          go_wp2_with fail
          go_roundg (gk - 1)
          case measure => omega
          case rel => exact ⟨i + 1, _, by go_num, by omega, rfl, HE2.out⟩
        · have tb : ((x : Int) == (y : Int)) = false := by rw [beq_eq_false_iff_ne]; omega
          have HD2 := Lib.hid (HD.out hxy)
          clear hxy HE HD
          go_wp2_with fail
          go_quiet (fail)
          go_wp2_with fail
          go_ret
          exact ⟨by rw [HD2.out]; rfl, below_drewN (below_drewN (Below.refl _ _) m) _⟩

theorem numAt_succ (l : List Nat) (a m : Nat) (h : a + m < l.length) : Pdu.numAt l a (m + 1) = 256 * Pdu.numAt l a m + l.getD (a + m) 0 := by
  unfold Pdu.numAt
  have hl : m < (l.drop a).length := by rw [List.length_drop]; omega
  rw [List.take_succ_eq_append_getElem hl, Pdu.num_snoc]
  simp [List.getD, h]
theorem numAt_lt (l : List Nat) (a m : Nat) (hB : Crc.Bytes l) : Pdu.numAt l a m < 256 ^ m := by
  unfold Pdu.numAt
  have h := Pdu.num_lt ((l.drop a).take m) (fun b hb => hB b (List.mem_of_mem_drop (List.mem_of_mem_take hb)))
  have h2 : ((l.drop a).take m).length ≤ m := List.length_take_le _ _
  exact Nat.lt_of_lt_of_le h (Nat.pow_le_pow_right (by omega) h2)

set_option maxRecDepth 100000 in
set_option maxHeartbeats 3200000 in
theorem number02_any (v : Value) (l : List Nat) (a k : Nat) (w : World) (h : BytesAt w v l) (hB : Crc.Bytes l) (hk : k ≤ 6) (ha : a + k ≤ l.length) (ha2 : a ≤ 1000) (hl : l.length ≤ 9223372036854775807) :
    Calls Try.prog 33 #[v, .int .i64 (a : Int), .int .i64 (k : Int)] w fun e w' => e = .returned (.int .i64 (Pdu.numAt l a k : Nat)) ∧ w = w' := by
  obtain ⟨va, vc, rfl, _⟩ := h.form
  have HB := Lib.hid h; clear h
  go_enter Try.func33, Try.ntmps33
  go_wp2_with fail
  go_loopg [7, 8] k (fun g s7 s8 wx => wx = w ∧ ∃ m : Nat, s7 = .int .i64 (Pdu.numAt l a m : Nat) ∧ s8 = .int .i64 ((a + m : Nat) : Int) ∧ m + g = k)
  case atStart => exact ⟨rfl, 0, rfl, rfl, by omega⟩
  case round =>
    obtain ⟨hw, m, rfl, rfl, hmg⟩ := hrel
    have hw2 := hw.symm
    clear hw
    subst hw2
    by_cases hm : m < k
    case neg =>
      obtain rfl : m = k := by omega
      go_wp2_with fail
      go_ret
      exact ⟨rfl, rfl⟩
    case pos =>
      obtain ⟨b, o, rfl, hbl, xa⟩ := HB.out.at (a + m) (by omega)
      have HS := Lib.hid (numAt_succ l a m (by omega))
      have hlt := numAt_lt l a (m + 1) hB
      rw [HS.out] at hlt
      have hp : 256 ^ (m + 1) ≤ 281474976710656 := Nat.le_trans (Nat.pow_le_pow_right (by omega) (show m + 1 ≤ 6 by omega)) (by decide)
      have hlt2 : 256 * Pdu.numAt l a m + l.getD (a + m) 0 < 281474976710656 := by omega
      clear hlt hp
      generalize Pdu.numAt l a m = x at *
      generalize l.getD (a + m) 0 = y at *
      go_wp2_with fail
      go_roundg (gk - 1)
      case measure => omega
      case rel => exact ⟨rfl, m + 1, by rw [HS.out]; go_num, by go_num, by omega⟩
theorem number_any (v : Value) (l : List Nat) (a k : Nat) (w : World) (h : BytesAt w v l) (hB : Crc.Bytes l) (hk : k ≤ 6) (ha : a + k ≤ l.length) (ha2 : a ≤ 1000) (hl : l.length ≤ 9223372036854775807) :
    Calls Try.prog 29 #[v, .int .i64 (a : Int), .int .i64 (k : Int)] w fun e w' => e = .returned (.int .i64 (Pdu.numAt l a k : Nat)) ∧ w = w' := by
  have H := Lib.hid (number02_any v l a k w h hB hk ha ha2 hl)
  clear h
  go_enter Try.func29, Try.ntmps29
  go_wp2_with fail
  refine H.out.mono ?_
  rintro e w' ⟨rfl, rfl⟩
  go_wp2_with fail
  go_ret
  exact ⟨rfl, rfl⟩

set_option maxRecDepth 100000 in
set_option maxHeartbeats 3200000 in
/-- The document's sum behind bytes. -/
theorem summed02_any (base : Nat) (v vf : Value) (l lf : List Nat) (w : World) (h : Owns base w v l) (hf : BytesAt w vf lf) (hB : Crc.Bytes lf) (hb : base ≤ w.heap.size) (hl : l.length ≤ 1000000) (hlf : lf.length ≤ 1000000) :
    Calls Try.prog 23 #[v, vf] w fun e w' => ∃ v', e = .returned v' ∧ Owns base w' v' (l ++ Pdu.sumS lf) ∧ Below base w w' := by
  have HO := Lib.hid h; clear h
  have HS := Lib.hid (refSum_any vf lf w hf hB (by omega))
  clear hf
  go_enter Try.func23, Try.ntmps23
  go_wp2_with fail
  refine HS.out.mono ?_
  rintro e w' ⟨rfl, rfl⟩
  have hs := Crc.more_lt 0 lf
  have HE := Lib.hid (show Pdu.sumS lf = Pdu.le4 (Crc.more 0 lf) from rfl)
  generalize Crc.more 0 lf = s at *
  go_wp2_with fail
  go_loopg [0, 6] 4 (fun g s0 s6 wx => ∃ i : Nat, s6 = .int .i64 i ∧ i + g = 4 ∧ Owns base wx s0 (l ++ (Pdu.le4 s).take i) ∧ Below base w wx)
  case atStart => exact ⟨0, rfl, by omega, by simpa using HO.out, Below.refl _ _⟩
  case round =>
    obtain ⟨i, rfl, hig, hown, hbel⟩ := hrel
    have HX := Lib.hid hown; clear hown
    have HK := Lib.hid hbel; clear hbel
    have hsz := HK.out.size
    by_cases hi : i < 4
    case neg =>
      obtain rfl : i = 4 := by omega
      go_wp2_with fail
      go_ret
      exact ⟨_, rfl, by rw [HE.out]; exact HX.out, HK.out⟩
    case pos =>
      obtain ⟨x, hx⟩ : ∃ x, x = s / 256 ^ i % 256 := ⟨_, rfl⟩
      have e2 : (s : Int) / 2 ^ (8 * i) % 256 = (x : Int) := by
        have e3 : (256 : Nat) ^ i = 2 ^ (8 * i) := by rw [Nat.pow_mul]
        rw [hx, e3]
        simp
      have HT := Lib.hid (show (Pdu.le4 s).take (i + 1) = (Pdu.le4 s).take i ++ [x] from by
        rw [hx]
        have : i = 0 ∨ i = 1 ∨ i = 2 ∨ i = 3 := by omega
        rcases this with rfl | rfl | rfl | rfl <;> simp [Pdu.le4])
      clear hx
      have hlen : (l ++ (Pdu.le4 s).take i).length + 1 ≤ 140737488355328 := by simp [Pdu.le4_length]; omega
      go_wp2_with (at_builtin; refine wpList_append_bytes rfl (.tmp 13) (.tmp 19) rfl base u0 _ rfl (World.ownsRow.alloc HX.out _) (.slice (some ⟨wr.heap.size, 0, none⟩) 1 1) [x] rfl (BytesAt.one wr x _) hlen (by simp; omega) ?_; intro v' w4 hown hgrow)
      go_roundg (gk - 1)
      case measure => omega
      case rel =>
        refine ⟨i + 1, by go_num, by omega, ?_, (HK.out.alloc (by omega) _).grown hgrow (by simp; omega) (fun z hz => (HX.out.from z hz).1)⟩
        rw [HT.out, ← List.append_assoc]; exact hown

theorem zeros_snoc (n : Nat) : Pdu.zeros (n + 1) = Pdu.zeros n ++ [0] := by unfold Pdu.zeros; rw [List.replicate_succ']
set_option maxRecDepth 100000 in
set_option maxHeartbeats 3200000 in
theorem padded_any (v : Value) (l : List Nat) (w : World) (h : BytesAt w v l) (hl : l.length ≤ 1000000) :
    Calls Try.prog 24 #[v] w fun e w' => ∃ v', e = .returned v' ∧ Owns w.heap.size w' v' (Pdu.padded l) ∧ Below w.heap.size w w' := by
  have HD := Lib.hid h; clear h
  go_enter Try.func24, Try.ntmps24
  go_upto_region 3 with (at_builtin; refine wpList_append_bytes rfl (.tmp 4) (.tmp 5) rfl w.heap.size (.slice none 0 0) [] rfl (Owns.nil _ _) v l rfl HD.out (by simp; omega) (Nat.le_refl _) ?_; intro v' w3 hown hgrow; rw [List.nil_append] at hown)
  have HO := Lib.hid hown; clear hown
  have HB := Lib.hid (show Below w.heap.size w w3 from (Below.refl _ _).grown hgrow (Nat.le_refl _) (fun k hk => by simp [Value.ownBlock] at hk))
  clear hgrow
  have hp : l.length ≤ Pdu.pad4 l.length ∧ Pdu.pad4 l.length < l.length + 4 ∧ Pdu.pad4 l.length % 4 = 0 := by unfold Pdu.pad4; omega
  obtain ⟨p1, p2, p3⟩ := hp
  generalize hpe : Pdu.pad4 l.length = p at *
  have HPE := Lib.hid hpe; clear hpe
  go_loopg [3] (p - l.length) (fun g s3 wx => ∃ i : Nat, i + g = p - l.length ∧ Owns w.heap.size wx s3 (l ++ Pdu.zeros i) ∧ Below w.heap.size w wx)
  case atStart => exact ⟨0, by omega, by simpa [Pdu.zeros] using HO.out, HB.out⟩
  case round =>
    obtain ⟨i, hig, hown, hbel⟩ := hrel
    have HX := Lib.hid hown; clear hown
    have HK := Lib.hid hbel; clear hbel
    have hsz := HK.out.size
    obtain ⟨xa, xc, e3, _⟩ := (Owns.bytes HX.out).form
    have hxl : (l ++ Pdu.zeros i).length = l.length + i := by simp [Pdu.zeros]
    rw [hxl] at e3
    subst e3
    by_cases hi : i < p - l.length
    case neg =>
      have tm : (((l.length + i : Nat) : Int).tmod 4 == 0) = true := by rw [show ((l.length + i : Nat) : Int).tmod 4 = (((l.length + i) % 4 : Nat) : Int) from rfl, beq_iff_eq]; omega
      have HR := Lib.hid (show Pdu.padded l = l ++ Pdu.zeros i from by unfold Pdu.padded; rw [HPE.out]; congr 2; omega)
      go_wp2_with fail
      go_ret
      exact ⟨_, rfl, by rw [HR.out]; exact HX.out, HK.out⟩
    case pos =>
      have tm : (((l.length + i : Nat) : Int).tmod 4 == 0) = false := by rw [show ((l.length + i : Nat) : Int).tmod 4 = (((l.length + i) % 4 : Nat) : Int) from rfl, beq_eq_false_iff_ne]; omega
      have hlen : (l ++ Pdu.zeros i).length + 1 ≤ 140737488355328 := by rw [hxl]; omega
      go_wp2_with (at_builtin; refine wpList_append_bytes rfl (.tmp 11) (.tmp 12) rfl w.heap.size (.slice xa (l.length + i) xc) _ rfl (World.ownsRow.alloc HX.out _) (.slice (some ⟨wr.heap.size, 0, none⟩) 1 1) [0] rfl (BytesAt.one wr 0 _) hlen (by simp; omega) ?_; intro v' w4 hown hgrow)
      go_roundg (gk - 1)
      case measure => omega
      case rel =>
        refine ⟨i + 1, by omega, ?_, (HK.out.alloc (by omega) _).grown hgrow (by simp; omega) (fun z hz => (HX.out.from z hz).1)⟩
        rw [zeros_snoc, ← List.append_assoc]; exact hown
end Go.Proofs.Ytodmpchnjakchaa
