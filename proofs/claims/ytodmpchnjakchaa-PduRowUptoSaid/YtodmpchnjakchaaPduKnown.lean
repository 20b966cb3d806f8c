/-
  PDUs: Print and Parse of no table; known.
-/
import Derived.Test.YtodmpchnjakchaaPduSame
import Derived.Test.YtodmpchnjakchaaPduPrint
import Derived.Lib.SlBytesConst
namespace Go.Proofs.Ytodmpchnjakchaa
open Go.RowKit

theorem ops_at17 {x0 x1 x2 x3 x4 x5 x6 x7 x8 x9 x10 x11 x12 x13 x14 x15 x16 x17 : Oper} {l : List Oper} : (x0 :: x1 :: x2 :: x3 :: x4 :: x5 :: x6 :: x7 :: x8 :: x9 :: x10 :: x11 :: x12 :: x13 :: x14 :: x15 :: x16 :: x17 :: l).toArray[17]? = some x17 := rfl
theorem ops_at18 {x0 x1 x2 x3 x4 x5 x6 x7 x8 x9 x10 x11 x12 x13 x14 x15 x16 x17 x18 : Oper} {l : List Oper} : (x0 :: x1 :: x2 :: x3 :: x4 :: x5 :: x6 :: x7 :: x8 :: x9 :: x10 :: x11 :: x12 :: x13 :: x14 :: x15 :: x16 :: x17 :: x18 :: l).toArray[18]? = some x18 := rfl
theorem ops_at19 {x0 x1 x2 x3 x4 x5 x6 x7 x8 x9 x10 x11 x12 x13 x14 x15 x16 x17 x18 x19 : Oper} {l : List Oper} : (x0 :: x1 :: x2 :: x3 :: x4 :: x5 :: x6 :: x7 :: x8 :: x9 :: x10 :: x11 :: x12 :: x13 :: x14 :: x15 :: x16 :: x17 :: x18 :: x19 :: l).toArray[19]? = some x19 := rfl
theorem ops_at20 {x0 x1 x2 x3 x4 x5 x6 x7 x8 x9 x10 x11 x12 x13 x14 x15 x16 x17 x18 x19 x20 : Oper} {l : List Oper} : (x0 :: x1 :: x2 :: x3 :: x4 :: x5 :: x6 :: x7 :: x8 :: x9 :: x10 :: x11 :: x12 :: x13 :: x14 :: x15 :: x16 :: x17 :: x18 :: x19 :: x20 :: l).toArray[20]? = some x20 := rfl
theorem ops_at21 {x0 x1 x2 x3 x4 x5 x6 x7 x8 x9 x10 x11 x12 x13 x14 x15 x16 x17 x18 x19 x20 x21 : Oper} {l : List Oper} : (x0 :: x1 :: x2 :: x3 :: x4 :: x5 :: x6 :: x7 :: x8 :: x9 :: x10 :: x11 :: x12 :: x13 :: x14 :: x15 :: x16 :: x17 :: x18 :: x19 :: x20 :: x21 :: l).toArray[21]? = some x21 := rfl
theorem ops_at22 {x0 x1 x2 x3 x4 x5 x6 x7 x8 x9 x10 x11 x12 x13 x14 x15 x16 x17 x18 x19 x20 x21 x22 : Oper} {l : List Oper} : (x0 :: x1 :: x2 :: x3 :: x4 :: x5 :: x6 :: x7 :: x8 :: x9 :: x10 :: x11 :: x12 :: x13 :: x14 :: x15 :: x16 :: x17 :: x18 :: x19 :: x20 :: x21 :: x22 :: l).toArray[22]? = some x22 := rfl
theorem ops_at23 {x0 x1 x2 x3 x4 x5 x6 x7 x8 x9 x10 x11 x12 x13 x14 x15 x16 x17 x18 x19 x20 x21 x22 x23 : Oper} {l : List Oper} : (x0 :: x1 :: x2 :: x3 :: x4 :: x5 :: x6 :: x7 :: x8 :: x9 :: x10 :: x11 :: x12 :: x13 :: x14 :: x15 :: x16 :: x17 :: x18 :: x19 :: x20 :: x21 :: x22 :: x23 :: l).toArray[23]? = some x23 := rfl
theorem ops_at24 {x0 x1 x2 x3 x4 x5 x6 x7 x8 x9 x10 x11 x12 x13 x14 x15 x16 x17 x18 x19 x20 x21 x22 x23 x24 : Oper} {l : List Oper} : (x0 :: x1 :: x2 :: x3 :: x4 :: x5 :: x6 :: x7 :: x8 :: x9 :: x10 :: x11 :: x12 :: x13 :: x14 :: x15 :: x16 :: x17 :: x18 :: x19 :: x20 :: x21 :: x22 :: x23 :: x24 :: l).toArray[24]? = some x24 := rfl
theorem ops_at25 {x0 x1 x2 x3 x4 x5 x6 x7 x8 x9 x10 x11 x12 x13 x14 x15 x16 x17 x18 x19 x20 x21 x22 x23 x24 x25 : Oper} {l : List Oper} : (x0 :: x1 :: x2 :: x3 :: x4 :: x5 :: x6 :: x7 :: x8 :: x9 :: x10 :: x11 :: x12 :: x13 :: x14 :: x15 :: x16 :: x17 :: x18 :: x19 :: x20 :: x21 :: x22 :: x23 :: x24 :: x25 :: l).toArray[25]? = some x25 := rfl
theorem ops_at26 {x0 x1 x2 x3 x4 x5 x6 x7 x8 x9 x10 x11 x12 x13 x14 x15 x16 x17 x18 x19 x20 x21 x22 x23 x24 x25 x26 : Oper} {l : List Oper} : (x0 :: x1 :: x2 :: x3 :: x4 :: x5 :: x6 :: x7 :: x8 :: x9 :: x10 :: x11 :: x12 :: x13 :: x14 :: x15 :: x16 :: x17 :: x18 :: x19 :: x20 :: x21 :: x22 :: x23 :: x24 :: x25 :: x26 :: l).toArray[26]? = some x26 := rfl
theorem ops_at27 {x0 x1 x2 x3 x4 x5 x6 x7 x8 x9 x10 x11 x12 x13 x14 x15 x16 x17 x18 x19 x20 x21 x22 x23 x24 x25 x26 x27 : Oper} {l : List Oper} : (x0 :: x1 :: x2 :: x3 :: x4 :: x5 :: x6 :: x7 :: x8 :: x9 :: x10 :: x11 :: x12 :: x13 :: x14 :: x15 :: x16 :: x17 :: x18 :: x19 :: x20 :: x21 :: x22 :: x23 :: x24 :: x25 :: x26 :: x27 :: l).toArray[27]? = some x27 := rfl
theorem ops_at28 {x0 x1 x2 x3 x4 x5 x6 x7 x8 x9 x10 x11 x12 x13 x14 x15 x16 x17 x18 x19 x20 x21 x22 x23 x24 x25 x26 x27 x28 : Oper} {l : List Oper} : (x0 :: x1 :: x2 :: x3 :: x4 :: x5 :: x6 :: x7 :: x8 :: x9 :: x10 :: x11 :: x12 :: x13 :: x14 :: x15 :: x16 :: x17 :: x18 :: x19 :: x20 :: x21 :: x22 :: x23 :: x24 :: x25 :: x26 :: x27 :: x28 :: l).toArray[28]? = some x28 := rfl
theorem ops_at29 {x0 x1 x2 x3 x4 x5 x6 x7 x8 x9 x10 x11 x12 x13 x14 x15 x16 x17 x18 x19 x20 x21 x22 x23 x24 x25 x26 x27 x28 x29 : Oper} {l : List Oper} : (x0 :: x1 :: x2 :: x3 :: x4 :: x5 :: x6 :: x7 :: x8 :: x9 :: x10 :: x11 :: x12 :: x13 :: x14 :: x15 :: x16 :: x17 :: x18 :: x19 :: x20 :: x21 :: x22 :: x23 :: x24 :: x25 :: x26 :: x27 :: x28 :: x29 :: l).toArray[29]? = some x29 := rfl
theorem ops_at30 {x0 x1 x2 x3 x4 x5 x6 x7 x8 x9 x10 x11 x12 x13 x14 x15 x16 x17 x18 x19 x20 x21 x22 x23 x24 x25 x26 x27 x28 x29 x30 : Oper} {l : List Oper} : (x0 :: x1 :: x2 :: x3 :: x4 :: x5 :: x6 :: x7 :: x8 :: x9 :: x10 :: x11 :: x12 :: x13 :: x14 :: x15 :: x16 :: x17 :: x18 :: x19 :: x20 :: x21 :: x22 :: x23 :: x24 :: x25 :: x26 :: x27 :: x28 :: x29 :: x30 :: l).toArray[30]? = some x30 := rfl
theorem ops_at31 {x0 x1 x2 x3 x4 x5 x6 x7 x8 x9 x10 x11 x12 x13 x14 x15 x16 x17 x18 x19 x20 x21 x22 x23 x24 x25 x26 x27 x28 x29 x30 x31 : Oper} {l : List Oper} : (x0 :: x1 :: x2 :: x3 :: x4 :: x5 :: x6 :: x7 :: x8 :: x9 :: x10 :: x11 :: x12 :: x13 :: x14 :: x15 :: x16 :: x17 :: x18 :: x19 :: x20 :: x21 :: x22 :: x23 :: x24 :: x25 :: x26 :: x27 :: x28 :: x29 :: x30 :: x31 :: l).toArray[31]? = some x31 := rfl
theorem ops_at32 {x0 x1 x2 x3 x4 x5 x6 x7 x8 x9 x10 x11 x12 x13 x14 x15 x16 x17 x18 x19 x20 x21 x22 x23 x24 x25 x26 x27 x28 x29 x30 x31 x32 : Oper} {l : List Oper} : (x0 :: x1 :: x2 :: x3 :: x4 :: x5 :: x6 :: x7 :: x8 :: x9 :: x10 :: x11 :: x12 :: x13 :: x14 :: x15 :: x16 :: x17 :: x18 :: x19 :: x20 :: x21 :: x22 :: x23 :: x24 :: x25 :: x26 :: x27 :: x28 :: x29 :: x30 :: x31 :: x32 :: l).toArray[32]? = some x32 := rfl
theorem ops_at33 {x0 x1 x2 x3 x4 x5 x6 x7 x8 x9 x10 x11 x12 x13 x14 x15 x16 x17 x18 x19 x20 x21 x22 x23 x24 x25 x26 x27 x28 x29 x30 x31 x32 x33 : Oper} {l : List Oper} : (x0 :: x1 :: x2 :: x3 :: x4 :: x5 :: x6 :: x7 :: x8 :: x9 :: x10 :: x11 :: x12 :: x13 :: x14 :: x15 :: x16 :: x17 :: x18 :: x19 :: x20 :: x21 :: x22 :: x23 :: x24 :: x25 :: x26 :: x27 :: x28 :: x29 :: x30 :: x31 :: x32 :: x33 :: l).toArray[33]? = some x33 := rfl
theorem ops_at34 {x0 x1 x2 x3 x4 x5 x6 x7 x8 x9 x10 x11 x12 x13 x14 x15 x16 x17 x18 x19 x20 x21 x22 x23 x24 x25 x26 x27 x28 x29 x30 x31 x32 x33 x34 : Oper} {l : List Oper} : (x0 :: x1 :: x2 :: x3 :: x4 :: x5 :: x6 :: x7 :: x8 :: x9 :: x10 :: x11 :: x12 :: x13 :: x14 :: x15 :: x16 :: x17 :: x18 :: x19 :: x20 :: x21 :: x22 :: x23 :: x24 :: x25 :: x26 :: x27 :: x28 :: x29 :: x30 :: x31 :: x32 :: x33 :: x34 :: l).toArray[34]? = some x34 := rfl
theorem ops_at35 {x0 x1 x2 x3 x4 x5 x6 x7 x8 x9 x10 x11 x12 x13 x14 x15 x16 x17 x18 x19 x20 x21 x22 x23 x24 x25 x26 x27 x28 x29 x30 x31 x32 x33 x34 x35 : Oper} {l : List Oper} : (x0 :: x1 :: x2 :: x3 :: x4 :: x5 :: x6 :: x7 :: x8 :: x9 :: x10 :: x11 :: x12 :: x13 :: x14 :: x15 :: x16 :: x17 :: x18 :: x19 :: x20 :: x21 :: x22 :: x23 :: x24 :: x25 :: x26 :: x27 :: x28 :: x29 :: x30 :: x31 :: x32 :: x33 :: x34 :: x35 :: l).toArray[35]? = some x35 := rfl
theorem ops_at36 {x0 x1 x2 x3 x4 x5 x6 x7 x8 x9 x10 x11 x12 x13 x14 x15 x16 x17 x18 x19 x20 x21 x22 x23 x24 x25 x26 x27 x28 x29 x30 x31 x32 x33 x34 x35 x36 : Oper} {l : List Oper} : (x0 :: x1 :: x2 :: x3 :: x4 :: x5 :: x6 :: x7 :: x8 :: x9 :: x10 :: x11 :: x12 :: x13 :: x14 :: x15 :: x16 :: x17 :: x18 :: x19 :: x20 :: x21 :: x22 :: x23 :: x24 :: x25 :: x26 :: x27 :: x28 :: x29 :: x30 :: x31 :: x32 :: x33 :: x34 :: x35 :: x36 :: l).toArray[36]? = some x36 := rfl

set_option maxRecDepth 100000 in
set_option maxHeartbeats 3200000 in
theorem print_nil (p : Pdu.PD) (dv : Value) (head data : Bool) (w : World) :
    Calls Try.prog 10 #[.pointer none, .agg (p.cells dv), .bool head, .bool data] w fun e w' => e = .returned (.tuple #[.slice none 0 0, .int .i64 1]) ∧ Below w.heap.size w w' := by
  obtain ⟨W, hW⟩ : ∃ W, W = w.alloc (.cells (p.cells dv) 32) := ⟨_, rfl⟩
  have HBW := Lib.hid (show Below w.heap.size w W by rw [hW]; exact allocBelow w _)
  go_enter Try.func10, Try.ntmps10
  go_upto_region 1 with fail
  rw [← hW]
  clear hW
  go_wp2_with fail
  go_ret2
  exact ⟨rfl, HBW.out⟩

set_option maxRecDepth 100000 in
set_option maxHeartbeats 3200000 in
theorem parse_nil (bv : Value) (head data : Bool) (most : Int) (w : World) :
    Calls Try.prog 14 #[.pointer none, bv, .bool head, .bool data, .int .i64 most] w fun e w' => e = .returned (.tuple #[.agg (Pdu.pdZero.cells (.slice none 0 0)), .int .i64 0, .int .i64 1]) ∧ Below w.heap.size w w' := by
  obtain ⟨W, hW⟩ : ∃ W, W = w.alloc (.cells #[.int .i64 0, .bool false, .int .i64 0, .int .i64 0, .int .i64 0, .int .i64 0, .int .i64 0, .int .i64 0, .int .i64 0, .int .i64 0, .int .u8 0, .int .u8 0, .int .u8 0, .int .u8 0, .int .u8 0, .int .u8 0, .int .u8 0, .int .u8 0, .int .u8 0, .int .u8 0, .int .u8 0, .int .u8 0, .int .u8 0, .int .u8 0, .int .u8 0, .int .u8 0, .slice none 0 0] 32) := ⟨_, rfl⟩
  have HBW := Lib.hid (show Below w.heap.size w W by rw [hW]; exact allocBelow w _)
  have HZ := Lib.hid (show ∀ j, W.cell? ⟨w.heap.size, j, none⟩ = (Pdu.pdZero.cells (.slice none 0 0))[j]? from fun j => by rw [hW]; exact World.cell?_alloc_new _ _ _ _)
  have HF := Lib.hid (show ∀ j, W.frozen? ⟨w.heap.size, j, none⟩ = false from fun j => by rw [hW]; exact frozen_new _ _ _ _)
  have hsW : W.heap.size = w.heap.size + 1 := by rw [hW]; simp
  have HI2 := Lib.hid (show (Try.prog.info? 32).map (·.size) = some 27 by kernel_rfl)
  have HU2 := Lib.hid (Try.underlying32)
  go_enter Try.func14, Try.ntmps14
  go_upto_region 1 with fail
  rw [← hW]
  clear hW
  go_wp2_with (refine wpList_store_pd rfl 32 (.tmp 10) (.tmp 28) rfl w.heap.size Pdu.pdZero Pdu.pdZero (.slice none 0 0) (.slice none 0 0) rfl rfl HZ.out HF.out rfl HI2.out ?_; intro W9 hc9 hf9 hk9 hs9; have HC9 := Lib.hid hc9; have HK9 := Lib.hid hk9; clear hc9 hf9 hk9)
  (try simp only [Exit.inBlock, Exit.then])
  refine bodyPost_ret (results_cell3 (cs := (Pdu.pdZero.cells (.slice none 0 0)).toList) rfl _ rfl (pd_range Pdu.pdZero _ _ _ HC9.out) HU2.out rfl (by rw [HI2.out]; rfl)) rfl ?_
  exact ⟨rfl, HBW.out.trans (HK9.out.below (by omega) (fun z h1 h2 => by omega))⟩

def kp : Pdu.PD := ⟨1, false, 192, 0, 0, 0, 7, 0, 0, 0, Pdu.zeros 16, [97, 98, 99, 100, 101]⟩
theorem kp_may : Pdu.may kp = true := by decide
theorem kp_ok : kp.Ok := by
  constructor <;> first | (unfold i64s kp; simp; done) | (simp [kp, Pdu.zeros]; done) | (intro b hb; simp [kp, Pdu.zeros] at hb; omega)
theorem kp_line : (Pdu.line kp false false).length = 56 ∧ (Pdu.line kp false false).getD 19 0 = 7 := by decide
theorem kp_parse : Pdu.parse (Pdu.line kp false false) false false 1024 = (kp, 56, 0) := by
  have h := Pdu.parse_line kp false false [] (by simp [kp, Pdu.zeros]) kp_may
  rw [List.append_nil, kp_line.1] at h
  exact h
theorem Owns.room {base : Nat} {w : World} {a : Option Addr} {n c : Nat} {l : List Nat} (h : Owns base w (.slice a n c) l) : n ≤ c := by
  rcases h.2 with ⟨h0, _⟩ | ⟨g, cap, cur, hv, hb, hg, hn, _⟩
  · injection h0 with _ h1 h2; omega
  · injection hv with _ h1 h2; omega

set_option maxRecDepth 100000 in
set_option maxHeartbeats 6400000 in
theorem known_any (tb : Nat) (d : Bool) (w : World) (ht : Table w tb d) :
    Calls Try.prog 9 #[.pointer (some ⟨tb, 0, none⟩)] w fun e w' => e = .returned (.bool true) ∧ (∃ d', Table w' tb d') ∧ Keeps (· = tb) w w' := by
  have htl := block_lt ht.once
  simp only at htl
  have HI2 := Lib.hid (show (Try.prog.info? 32).map (·.size) = some 27 by kernel_rfl)
  have HU2 := Lib.hid (Try.underlying32)
  obtain ⟨X, hX⟩ : ∃ X, X = w.heap.size := ⟨_, rfl⟩
  obtain ⟨W, hW⟩ : ∃ W, W = w.alloc (.cells #[.int .u8 97, .int .u8 98, .int .u8 99, .int .u8 100, .int .u8 101] 5 (5, 6)) := ⟨_, rfl⟩
  have HBW := Lib.hid (show Below w.heap.size w W by rw [hW]; exact allocBelow w _)
  have hsW : W.heap.size = w.heap.size + 1 := by rw [hW]; simp
  have HX := Lib.hid (show BytesAt W (.slice (some ⟨X, 0, none⟩) 5 5) kp.data from .inr ⟨X, 0, 5, rfl, fun i hi => by
    have hi5 : i < 5 := hi
    rw [hW, hX, Nat.zero_add, World.cell?_alloc_mark]
    have : i = 0 ∨ i = 1 ∨ i = 2 ∨ i = 3 ∨ i = 4 := by omega
    rcases this with rfl | rfl | rfl | rfl | rfl <;> rfl⟩)
  have HT := Lib.hid (ht.keeps (Keeps.of_below (F := fun _ => False) HBW.out) (fun h => h))
  clear ht
  have kc := fun (w : World) (C : Array Value) (n c : Nat) => Lib.run_convert_bytes_const (P := Try.prog) w 23 5 C n c Try.underlying23 Try.underlying5
  go_enter Try.func9, Try.ntmps9
  go_upto_region 4 with (refine wpList_store_pd rfl 32 (.tmp 3) (.tmp 18) rfl (w.heap.size + 1) Pdu.pdZero kp (.slice none 0 0) (.slice (some ⟨w.heap.size, 0, none⟩) 5 5) rfl rfl (fun j => by rw [← hW, ← hsW]; exact World.cell?_alloc_new _ _ _ _) (fun j => by rw [← hW, ← hsW]; exact frozen_new _ _ _ _) rfl HI2.out ?_; intro W3 hc hf hk hs; rw [← hW] at hk hs; have HC3 := Lib.hid hc; have HK3 := Lib.hid hk; clear hc hf hk)
  have hs3 : W3.heap.size = w.heap.size + 2 := by rw [hs]; simp; omega
  obtain ⟨P3, hP3⟩ : ∃ P3, P3 = w.heap.size + 1 := ⟨_, rfl⟩
  rw [← hP3, ← hX]
  rw [← hP3] at HC3 HK3
  rw [← hX] at HC3
  have hXP : w.heap.size ≤ X ∧ X ≤ w.heap.size ∧ P3 ≤ X + 1 ∧ X + 1 ≤ P3 ∧ W3.heap.size ≤ P3 + 1 ∧ P3 + 1 ≤ W3.heap.size := by omega
  have HB3 := Lib.hid (show Below W.heap.size W W3 from ((Keeps.refl (· = P3) W).alloc _).trans HK3.out (fun _ _ h => h) |>.below (Nat.le_refl _) (fun z h1 h2 => by omega))
  have hWs : w.heap.size ≤ W.heap.size := by omega
  clear hW hX hP3 hs hs3 hsW HK3
  have HT3 := Lib.hid (HT.out.keeps (Keeps.of_below (F := fun _ => False) HB3.out) (fun h => h))
  have HX3 := Lib.hid (HX.out.later HB3.out)
  have HW3 := Lib.hid (show Below w.heap.size w W3 from HBW.out.trans (HB3.out.mono hWs))
  have HP3of : ∀ V, Keeps (· = tb) W3 V → Hid (∀ j, V.cell? ⟨P3, j, none⟩ = (kp.cells (.slice (some ⟨X, 0, none⟩) 5 5))[j]?) := fun V hV j => (hV.cell (p := ⟨P3, j, none⟩) (by simp; omega) (by simp; omega)).trans (HC3.out j)
  have hlx : LiesIn (.slice (some ⟨X, 0, none⟩) 5 5) (· ≠ tb) := fun a n c e hn => by injection e with e1 e2 e3; injection e1 with e1; rw [← e1]; simp; omega
  have HXof3 : ∀ V, Keeps (· = tb) W3 V → Hid (BytesAt V (.slice (some ⟨X, 0, none⟩) 5 5) kp.data) := fun V hV => HX3.out.keeps hV hlx
  clear HT HX HBW HB3
  go_wp2_with (refine wpList_load_pd rfl 32 (.tmp 3) rfl P3 rfl kp (.slice (some ⟨X, 0, none⟩) 5 5) _ HU2.out rfl HI2.out HC3.out ?_)
  refine (print_any kp _ false false tb d W3 kp_ok HX3.out HT3.out hlx).mono ?_
  rintro e V1 hpost
  unfold PrintPost at hpost
  rw [if_pos kp_may] at hpost
  obtain ⟨⟨v, rfl, ho⟩, ⟨d1, ht1⟩, hk1⟩ := hpost
  obtain ⟨va, vc, rfl, _⟩ := ho.bytes.form
  have hroom := ho.room
  rw [kp_line.1] at ho hroom ⊢
  have HO1 := Lib.hid ho
  have HT1 := Lib.hid ht1
  have HK1 := Lib.hid hk1
  have hs1 := hk1.size
  clear ho ht1 hk1
  obtain ⟨B, o, rfl, hBV, hb19⟩ := HO1.out.bytes.at 19 (by rw [kp_line.1]; decide)
  rw [kp_line.2] at hb19
  have hBg := (HO1.out.from B rfl).1
  have hlv : LiesIn (.slice (some ⟨B, o, none⟩) 56 vc) (· ≠ tb) := fun a n c e hn => by injection e with e1 e2 e3; injection e1 with e1; rw [← e1]; simp; omega
  have HB19' := Lib.hid hb19; clear hb19
  have HPa := Lib.hid (parse_any _ (some ⟨B, o, none⟩) 56 vc (Pdu.line kp false false) false false 1024 tb d1 V1 rfl HO1.out.bytes (Pdu.line_bytes kp false false kp_ok.bytes kp_ok.data) hroom (by omega) ⟨by omega, by omega⟩ HT1.out hlv)
  go_wp2_with fail
  refine HPa.out.mono ?_
  rintro e V2 hpost
  unfold ParsePost at hpost
  rw [kp_parse] at hpost
  obtain ⟨ev, rfl, ho2, ⟨d2, ht2⟩, hk2⟩ := hpost
  obtain ⟨ea, ec, rfl, _⟩ := ho2.bytes.form
  obtain ⟨en, hen⟩ : ∃ en, en = (kp, 56, (0 : Int)).1.data.length := ⟨_, rfl⟩
  rw [← hen]
  rw [← hen] at ho2
  have HO2 := Lib.hid ho2
  have HT2 := Lib.hid ht2
  have HK2 := Lib.hid hk2
  have hs2 := hk2.size
  clear ho2 ht2 hk2 HPa hen
  obtain ⟨P6, hP6⟩ : ∃ x, x = V2.heap.size := ⟨_, rfl⟩
  go_upto_region 6 with (refine wpList_store_pd rfl 32 (.tmp 6) (.tmp 29) rfl V2.heap.size Pdu.pdZero kp (.slice none 0 0) (.slice ea en ec) rfl rfl (fun j => show (V2.alloc (.cells #[.int .i64 0, .bool false, .int .i64 0, .int .i64 0, .int .i64 0, .int .i64 0, .int .i64 0, .int .i64 0, .int .i64 0, .int .i64 0, .int .u8 0, .int .u8 0, .int .u8 0, .int .u8 0, .int .u8 0, .int .u8 0, .int .u8 0, .int .u8 0, .int .u8 0, .int .u8 0, .int .u8 0, .int .u8 0, .int .u8 0, .int .u8 0, .int .u8 0, .int .u8 0, .slice none 0 0] 32)).cell? _ = _ from World.cell?_alloc_new _ _ _ _) (fun j => frozen_new _ _ _ _) rfl HI2.out ?_; intro W6 hc hf hk hs; have HCP6 := Lib.hid hc; have HKP6 := Lib.hid ((((Keeps.refl (fun z => z = V2.heap.size) V2).alloc _).trans hk (fun _ _ h => h)).below (B := V2.heap.size) (Nat.le_refl _) (fun z h1 h2 => by omega)); have hsP6 : W6.heap.size = V2.heap.size + 1 := (by rw [hs]; simp); clear hc hf hk hs)
  rw [← hP6]
  rw [← hP6] at HCP6 hsP6
  have hleP6 : P6 ≤ V2.heap.size ∧ V2.heap.size ≤ P6 ∧ P6 + 1 ≤ W6.heap.size ∧ W6.heap.size ≤ P6 + 1 := by omega
  clear hP6 hsP6
  have HK6 := Lib.hid (show Keeps (· = tb) W3 W6 from (HK1.out.trans HK2.out (fun _ _ h => h)).trans (Keeps.of_below (F := (· = tb)) HKP6.out) (fun _ _ h => h))
  have HT6 := Lib.hid (show ∃ d', Table W6 tb d' from ⟨d2, HT2.out.keeps (Keeps.of_below (F := fun _ => False) HKP6.out) (fun h => h)⟩)
  have HX6 := HP3of W6 HK6.out
  go_wp2_with (refine wpList_load_pd rfl 32 (.tmp 3) rfl P3 rfl kp (.slice (some ⟨X, 0, none⟩) 5 5) _ HU2.out rfl HI2.out HX6.out ?_)
  refine (print_nil kp _ false false W6).mono ?_
  rintro e V3 ⟨rfl, hb3⟩
  have HB3 := Lib.hid hb3
  have hs3 := hb3.size
  clear hb3
  go_wp2_with fail
  refine (parse_nil _ false false 1024 V3).mono ?_
  rintro e V4 ⟨rfl, hb4⟩
  have HB4 := Lib.hid hb4
  have hs4 := hb4.size
  clear hb4
  obtain ⟨P7, hP7⟩ : ∃ x, x = V4.heap.size := ⟨_, rfl⟩
  go_upto_region 8 with (refine wpList_store_pd rfl 32 (.tmp 11) (.tmp 40) rfl V4.heap.size Pdu.pdZero Pdu.pdZero (.slice none 0 0) (.slice none 0 0) rfl rfl (fun j => show (V4.alloc (.cells #[.int .i64 0, .bool false, .int .i64 0, .int .i64 0, .int .i64 0, .int .i64 0, .int .i64 0, .int .i64 0, .int .i64 0, .int .i64 0, .int .u8 0, .int .u8 0, .int .u8 0, .int .u8 0, .int .u8 0, .int .u8 0, .int .u8 0, .int .u8 0, .int .u8 0, .int .u8 0, .int .u8 0, .int .u8 0, .int .u8 0, .int .u8 0, .int .u8 0, .int .u8 0, .slice none 0 0] 32)).cell? _ = _ from World.cell?_alloc_new _ _ _ _) (fun j => frozen_new _ _ _ _) rfl HI2.out ?_; intro W7 hc hf hk hs; have HCP7 := Lib.hid hc; have HKP7 := Lib.hid ((((Keeps.refl (fun z => z = V4.heap.size) V4).alloc _).trans hk (fun _ _ h => h)).below (B := V4.heap.size) (Nat.le_refl _) (fun z h1 h2 => by omega)); have hsP7 : W7.heap.size = V4.heap.size + 1 := (by rw [hs]; simp); clear hc hf hk hs)
  rw [← hP7]
  rw [← hP7] at HCP7 hsP7
  have hleP7 : P7 ≤ V4.heap.size ∧ V4.heap.size ≤ P7 ∧ P7 + 1 ≤ W7.heap.size ∧ W7.heap.size ≤ P7 + 1 := by omega
  clear hP7 hsP7
  have HK67 := Lib.hid (show Below W6.heap.size W6 W7 from HB3.out.trans ((HB4.out.mono hs3).trans (HKP7.out.mono (by omega))))
  have HW7 := Lib.hid (show Keeps (· = tb) w W7 from ((Keeps.of_below (F := (· = tb)) HW3.out).trans HK6.out (fun _ _ h => h)).trans (Keeps.of_below (F := (· = tb)) HK67.out) (fun _ _ h => h))
  have HK37 := Lib.hid (show Keeps (· = tb) W3 W7 from HK6.out.trans (Keeps.of_below (F := (· = tb)) HK67.out) (fun _ _ h => h))
  have HK17 := Lib.hid (show Keeps (· = tb) V1 W7 from (HK2.out.trans (Keeps.of_below (F := (· = tb)) HKP6.out) (fun _ _ h => h)).trans (Keeps.of_below (F := (· = tb)) HK67.out) (fun _ _ h => h))
  have HP3of : ∀ V, Below W7.heap.size W7 V → Hid (∀ j, V.cell? ⟨P3, j, none⟩ = (kp.cells (.slice (some ⟨X, 0, none⟩) 5 5))[j]?) := fun V hV0 => have hV := Keeps.of_below (F := (· = tb)) hV0; HP3of V (HK37.out.trans hV (fun _ _ h => h))
  have HP6of : ∀ V, Below W7.heap.size W7 V → Hid (∀ j, V.cell? ⟨P6, j, none⟩ = (kp.cells (.slice ea en ec))[j]?) := fun V hV0 j => have hV := Keeps.of_below (F := (· = tb)) hV0; ((Keeps.of_below (F := (· = tb)) HK67.out).trans hV (fun _ _ h => h)).cell (p := ⟨P6, j, none⟩) (by simp; omega) (by simp; omega) |>.trans (HCP6.out j)
  have HXof : ∀ V, Below W7.heap.size W7 V → Hid (BytesAt V (.slice (some ⟨X, 0, none⟩) 5 5) kp.data) := fun V hV0 => have hV := Keeps.of_below (F := (· = tb)) hV0; HXof3 V (HK37.out.trans hV (fun _ _ h => h))
  have HEof : ∀ V, Below W7.heap.size W7 V → Hid (BytesAt V (.slice ea en ec) kp.data) := fun V hV0 => have hV := Keeps.of_below (F := (· = tb)) hV0; (HO2.out.bytes.keeps (((Keeps.of_below (F := (· = tb)) HKP6.out).trans (Keeps.of_below (F := (· = tb)) HK67.out) (fun _ _ h => h)).trans hV (fun _ _ h => h)) (HO2.out.lies.mono fun z h => by omega))
  have HB19 : ∀ V, Below W7.heap.size W7 V → Hid (V.cell? ⟨B, o + 19, none⟩ = some (.int .u8 7)) := fun V hV0 => have hV := Keeps.of_below (F := (· = tb)) hV0; ((HK17.out.trans hV (fun _ _ h => h)).cell (p := ⟨B, o + 19, none⟩) (by simp; omega) (by simp; omega)).trans HB19'.out
  have HT7 := Lib.hid (show (∃ d', Table W7 tb d') ∧ tb < W7.heap.size from ⟨HT6.out.imp fun d' h => h.keeps (Keeps.of_below (F := fun _ => False) HK67.out) (fun h => h), by omega⟩)
  clear HX6 HC3 HX3 HXof3 HCP6 HCP7 HKP6 HKP7 HO1 HO2 HK1 HK2 HT1 HT2 HT6 HK6 HB3 HB4 HB19' HT3 HW3
  have HT9 : ∀ V, Below W7.heap.size W7 V → ∃ d', Table V tb d' := fun V hV => HT7.out.1.imp fun d' h => h.keeps (Keeps.of_below (F := fun _ => False) hV) (fun h => h)
  go_upto_region 8 with fail
  have hk0 : Below W7.heap.size W7 W7.drew := (Below.refl _ _).drew
  refine wp_region_held_drew (S := fun w' => Below W7.heap.size W7 w') (by kernel_rfl) hk0 (fun hHeld => ?_)
  refine wpAnyH_take (i := 0) (v := .int .i64 0) ops_at0 (by kernel_rfl) (by kernel_rfl) (by kernel_rfl) (fun _ _ _ h => h) (Or.inl ⟨by rfl, fun V hV => ?_⟩) hHeld ?_
  · go_simp
  simp only [Act.put, List.setIfInBounds_toArray, List.set_cons_zero, List.set_cons_succ]
  refine wpAnyH_take (i := 1) (v := .bool true) ops_at1 (by kernel_rfl) (by kernel_rfl) (by kernel_rfl) (fun _ _ _ h => h) (Or.inl ⟨by rfl, fun V hV => ?_⟩) hHeld ?_
  · go_simp
  simp only [Act.put, List.setIfInBounds_toArray, List.set_cons_zero, List.set_cons_succ]
  refine wpAnyH_take (i := 2) (v := .bool true) ops_at2 (by kernel_rfl) (by kernel_rfl) (by kernel_rfl) (fun _ _ _ h => h) (Or.inl ⟨by rfl, fun V hV => ?_⟩) hHeld ?_
  · go_simp
  simp only [Act.put, List.setIfInBounds_toArray, List.set_cons_zero, List.set_cons_succ]
  refine wpAnyH_take (i := 3) (v := .int .i64 0) ops_at3 (by kernel_rfl) (by kernel_rfl) (by kernel_rfl) (fun _ _ _ h => h) (Or.inl ⟨by rfl, fun V hV => ?_⟩) hHeld ?_
  · go_simp
  simp only [Act.put, List.setIfInBounds_toArray, List.set_cons_zero, List.set_cons_succ]
  refine wpAnyH_take (i := 4) (v := .bool true) ops_at4 (by kernel_rfl) (by kernel_rfl) (by kernel_rfl) (fun _ _ _ h => h) (Or.inl ⟨by rfl, fun V hV => ?_⟩) hHeld ?_
  · go_simp
  simp only [Act.put, List.setIfInBounds_toArray, List.set_cons_zero, List.set_cons_succ]
  refine wpAnyH_take (i := 5) (v := .bool true) ops_at5 (by kernel_rfl) (by kernel_rfl) (by kernel_rfl) (fun _ _ _ h => h) (Or.inl ⟨by rfl, fun V hV => ?_⟩) hHeld ?_
  · go_simp
  simp only [Act.put, List.setIfInBounds_toArray, List.set_cons_zero, List.set_cons_succ]
  refine wpAnyH_take (i := 6) (v := .bool true) ops_at6 (by kernel_rfl) (by kernel_rfl) (by kernel_rfl) (fun _ _ _ h => h) (Or.inl ⟨by rfl, fun V hV => ?_⟩) hHeld ?_
  · go_simp
  simp only [Act.put, List.setIfInBounds_toArray, List.set_cons_zero, List.set_cons_succ]
  refine wpAnyH_take (i := 7) (v := .int .i64 56) ops_at7 (by kernel_rfl) (by kernel_rfl) (by kernel_rfl) (fun _ _ _ h => h) (Or.inl ⟨by rfl, fun V hV => ?_⟩) hHeld ?_
  · go_simp
  simp only [Act.put, List.setIfInBounds_toArray, List.set_cons_zero, List.set_cons_succ]
  refine wpAnyH_take (i := 8) (v := .bool true) ops_at8 (by kernel_rfl) (by kernel_rfl) (by kernel_rfl) (fun _ _ _ h => h) (Or.inl ⟨by rfl, fun V hV => ?_⟩) hHeld ?_
  · go_simp
  simp only [Act.put, List.setIfInBounds_toArray, List.set_cons_zero, List.set_cons_succ]
  refine wpAnyH_take (i := 9) (v := .bool true) ops_at9 (by kernel_rfl) (by kernel_rfl) (by kernel_rfl) (fun _ _ _ h => h) (Or.inl ⟨by rfl, fun V hV => ?_⟩) hHeld ?_
  · go_simp
  simp only [Act.put, List.setIfInBounds_toArray, List.set_cons_zero, List.set_cons_succ]
  refine wpAnyH_take (i := 10) (v := .bool true) ops_at10 (by kernel_rfl) (by kernel_rfl) (by kernel_rfl) (fun _ _ _ h => h) (Or.inl ⟨by rfl, fun V hV => ?_⟩) hHeld ?_
  · go_simp
  simp only [Act.put, List.setIfInBounds_toArray, List.set_cons_zero, List.set_cons_succ]
  refine wpAnyH_take (i := 11) (v := .slice (some ⟨B, o, none⟩) 56 vc) ops_at11 (by kernel_rfl) (by kernel_rfl) (by kernel_rfl) (fun _ _ _ h => h) (Or.inl ⟨by rfl, fun V hV => ?_⟩) hHeld ?_
  · go_simp
  simp only [Act.put, List.setIfInBounds_toArray, List.set_cons_zero, List.set_cons_succ]
  refine wpAnyH_take (i := 12) (v := .int .i64 56) ops_at12 (by kernel_rfl) (by kernel_rfl) (by kernel_rfl) (fun _ _ _ h => h) (Or.inl ⟨by rfl, fun V hV => ?_⟩) hHeld ?_
  · go_simp
  simp only [Act.put, List.setIfInBounds_toArray, List.set_cons_zero, List.set_cons_succ]
  refine wpAnyH_take (i := 13) (v := .bool true) ops_at13 (by kernel_rfl) (by kernel_rfl) (by kernel_rfl) (fun _ _ _ h => h) (Or.inl ⟨by rfl, fun V hV => ?_⟩) hHeld ?_
  · go_simp
  simp only [Act.put, List.setIfInBounds_toArray, List.set_cons_zero, List.set_cons_succ]
  refine wpAnyH_take (i := 14) (v := .bool true) ops_at14 (by kernel_rfl) (by kernel_rfl) (by kernel_rfl) (fun _ _ _ h => h) (Or.inl ⟨by rfl, fun V hV => ?_⟩) hHeld ?_
  · go_simp
  simp only [Act.put, List.setIfInBounds_toArray, List.set_cons_zero, List.set_cons_succ]
  refine wpAnyH_take (i := 15) (v := .bool true) ops_at15 (by kernel_rfl) (by kernel_rfl) (by kernel_rfl) (fun _ _ _ h => h) (Or.inl ⟨by rfl, fun V hV => ?_⟩) hHeld ?_
  · go_simp
  simp only [Act.put, List.setIfInBounds_toArray, List.set_cons_zero, List.set_cons_succ]
  refine wpAnyH_take (i := 16) (v := .slice (some ⟨B, o, none⟩) 56 vc) ops_at16 (by kernel_rfl) (by kernel_rfl) (by kernel_rfl) (fun _ _ _ h => h) (Or.inl ⟨by rfl, fun V hV => ?_⟩) hHeld ?_
  · go_simp
  simp only [Act.put, List.setIfInBounds_toArray, List.set_cons_zero, List.set_cons_succ]
  refine wpAnyH_take (i := 17) (v := .pointer (some ⟨B, o + 19, none⟩)) ops_at17 (by kernel_rfl) (by kernel_rfl) (by kernel_rfl) (fun _ _ _ h => h) (Or.inl ⟨by rfl, fun V hV => ?_⟩) hHeld ?_
  · go_simp
  simp only [Act.put, List.setIfInBounds_toArray, List.set_cons_zero, List.set_cons_succ]
  refine wpAnyH_take (i := 18) (v := .int .u8 7) ops_at18 (by kernel_rfl) (by kernel_rfl) (by kernel_rfl) (fun _ _ _ h => h) (Or.inl ⟨by rfl, fun V hV => ?_⟩) hHeld ?_
  · have hx := (HB19 V hV).out
    go_simp
  simp only [Act.put, List.setIfInBounds_toArray, List.set_cons_zero, List.set_cons_succ]
  refine wpAnyH_take (i := 19) (v := .bool true) ops_at19 (by kernel_rfl) (by kernel_rfl) (by kernel_rfl) (fun _ _ _ h => h) (Or.inl ⟨by rfl, fun V hV => ?_⟩) hHeld ?_
  · go_simp
  simp only [Act.put, List.setIfInBounds_toArray, List.set_cons_zero, List.set_cons_succ]
  refine wpAnyH_take (i := 20) (v := .bool true) ops_at20 (by kernel_rfl) (by kernel_rfl) (by kernel_rfl) (fun _ _ _ h => h) (Or.inl ⟨by rfl, fun V hV => ?_⟩) hHeld ?_
  · go_simp
  simp only [Act.put, List.setIfInBounds_toArray, List.set_cons_zero, List.set_cons_succ]
  refine wpAnyH_take (i := 21) (v := .bool true) ops_at21 (by kernel_rfl) (by kernel_rfl) (by kernel_rfl) (fun _ _ _ h => h) (Or.inl ⟨by rfl, fun V hV => ?_⟩) hHeld ?_
  · go_simp
  simp only [Act.put, List.setIfInBounds_toArray, List.set_cons_zero, List.set_cons_succ]
  refine wpAnyH_take (i := 22) ops_at22 (by kernel_rfl) (by kernel_rfl) (by kernel_rfl) (fun _ _ _ h => h) (yieldsIf_load_mid (by rfl) 32 _ rfl P3 0 rfl (kp.cells (.slice (some ⟨X, 0, none⟩) 5 5)).toList _ (fun V hV => pd_range kp _ _ _ (HP3of V hV).out) HU2.out rfl (by rw [HI2.out]; rfl)) hHeld ?_
  simp only [Act.put, List.setIfInBounds_toArray, List.set_cons_zero, List.set_cons_succ]
  refine wpAnyH_take (i := 24) ops_at24 (by kernel_rfl) (by kernel_rfl) (by kernel_rfl) (fun _ _ _ h => h) (yieldsIf_load_mid (by rfl) 32 _ rfl P6 0 rfl (kp.cells (.slice ea en ec)).toList _ (fun V hV => pd_range kp _ _ _ (HP6of V hV).out) HU2.out rfl (by rw [HI2.out]; rfl)) hHeld ?_
  simp only [Act.put, List.setIfInBounds_toArray, List.set_cons_zero, List.set_cons_succ]
  refine wpAnyH_ready (rs := [23]) (by kernel_rfl) (by simp) ?_
  refine AllReadyH.cons ops_at23 (fun K hK => ?_) AllReadyH.nil
  rw [if_pos (by rfl)]
  go_simp
  refine (told_any kp (.slice (some ⟨X, 0, none⟩) 5 5) _ (HXof _ hk0).out).mono ?_
  rintro e V5 ⟨rfl, hb⟩
  have hk5 : Below W7.heap.size W7 V5 := hk0.trans (hb.mono hk0.size)
  clear hb
  go_wp2_with fail
  refine hK.out _ _ hk5 (fun hHeld => ?_)
  clear hK K
  refine wpAnyH_ready (rs := [25]) (by kernel_rfl) (by simp) ?_
  refine AllReadyH.cons ops_at25 (fun K hK => ?_) AllReadyH.nil
  rw [if_pos (by rfl)]
  go_simp
  refine (told_any kp (.slice ea en ec) _ (HEof _ hk5).out).mono ?_
  rintro e V6 ⟨rfl, hb⟩
  have hk6 : Below W7.heap.size W7 V6 := hk5.trans (hb.mono hk5.size)
  clear hb
  go_wp2_with fail
  refine hK.out _ _ hk6 (fun hHeld => ?_)
  clear hK K
  refine wpAnyH_ready (rs := [26]) (by kernel_rfl) (by simp) ?_
  refine AllReadyH.cons ops_at26 (fun K hK => ?_) AllReadyH.nil
  rw [if_pos (by rfl)]
  go_simp
  refine (same18_refl kp _ _ _ (HXof _ hk6).out (HEof _ hk6).out (by decide)).mono ?_
  rintro e V9 ⟨rfl, hb⟩
  have hk9 : Below W7.heap.size W7 V9 := hk6.trans (hb.mono hk6.size)
  clear hb
  go_wp2_with fail
  refine hK.out _ _ hk9 (fun hHeld => ?_)
  clear hK K
  refine wpAnyH_take (i := 27) (v := .bool true) ops_at27 (by kernel_rfl) (by kernel_rfl) (by kernel_rfl) (fun _ _ _ h => h) (Or.inl ⟨by rfl, fun V hV => ?_⟩) hHeld ?_
  · go_simp
  simp only [Act.put, List.setIfInBounds_toArray, List.set_cons_zero, List.set_cons_succ]
  refine wpAnyH_take (i := 28) (v := .bool true) ops_at28 (by kernel_rfl) (by kernel_rfl) (by kernel_rfl) (fun _ _ _ h => h) (Or.inl ⟨by rfl, fun V hV => ?_⟩) hHeld ?_
  · go_simp
  simp only [Act.put, List.setIfInBounds_toArray, List.set_cons_zero, List.set_cons_succ]
  refine wpAnyH_take (i := 29) (v := .int .i64 1) ops_at29 (by kernel_rfl) (by kernel_rfl) (by kernel_rfl) (fun _ _ _ h => h) (Or.inl ⟨by rfl, fun V hV => ?_⟩) hHeld ?_
  · go_simp
  simp only [Act.put, List.setIfInBounds_toArray, List.set_cons_zero, List.set_cons_succ]
  refine wpAnyH_take (i := 30) (v := .bool true) ops_at30 (by kernel_rfl) (by kernel_rfl) (by kernel_rfl) (fun _ _ _ h => h) (Or.inl ⟨by rfl, fun V hV => ?_⟩) hHeld ?_
  · go_simp
  simp only [Act.put, List.setIfInBounds_toArray, List.set_cons_zero, List.set_cons_succ]
  refine wpAnyH_take (i := 31) (v := .bool true) ops_at31 (by kernel_rfl) (by kernel_rfl) (by kernel_rfl) (fun _ _ _ h => h) (Or.inl ⟨by rfl, fun V hV => ?_⟩) hHeld ?_
  · go_simp
  simp only [Act.put, List.setIfInBounds_toArray, List.set_cons_zero, List.set_cons_succ]
  refine wpAnyH_take (i := 32) (v := .bool true) ops_at32 (by kernel_rfl) (by kernel_rfl) (by kernel_rfl) (fun _ _ _ h => h) (Or.inl ⟨by rfl, fun V hV => ?_⟩) hHeld ?_
  · go_simp
  simp only [Act.put, List.setIfInBounds_toArray, List.set_cons_zero, List.set_cons_succ]
  refine wpAnyH_take (i := 33) (v := .int .i64 1) ops_at33 (by kernel_rfl) (by kernel_rfl) (by kernel_rfl) (fun _ _ _ h => h) (Or.inl ⟨by rfl, fun V hV => ?_⟩) hHeld ?_
  · go_simp
  simp only [Act.put, List.setIfInBounds_toArray, List.set_cons_zero, List.set_cons_succ]
  refine wpAnyH_take (i := 34) (v := .bool true) ops_at34 (by kernel_rfl) (by kernel_rfl) (by kernel_rfl) (fun _ _ _ h => h) (Or.inl ⟨by rfl, fun V hV => ?_⟩) hHeld ?_
  · go_simp
  simp only [Act.put, List.setIfInBounds_toArray, List.set_cons_zero, List.set_cons_succ]
  refine wpAnyH_take (i := 35) (v := .bool true) ops_at35 (by kernel_rfl) (by kernel_rfl) (by kernel_rfl) (fun _ _ _ h => h) (Or.inl ⟨by rfl, fun V hV => ?_⟩) hHeld ?_
  · go_simp
  simp only [Act.put, List.setIfInBounds_toArray, List.set_cons_zero, List.set_cons_succ]
  refine wpAnyH_take (i := 36) (v := .bool true) ops_at36 (by kernel_rfl) (by kernel_rfl) (by kernel_rfl) (fun _ _ _ h => h) (Or.inl ⟨by rfl, fun V hV => ?_⟩) hHeld ?_
  · go_simp
  simp only [Act.put, List.setIfInBounds_toArray, List.set_cons_zero, List.set_cons_succ]
  refine wpAnyH_done (by kernel_rfl) ?_ _
  go_wp2_with fail
  go_ret
  exact ⟨rfl, HT9 _ hk9, HW7.out.trans (Keeps.of_below (F := (· = tb)) hk9) (fun _ _ h => h)⟩
end Go.Proofs.Ytodmpchnjakchaa
