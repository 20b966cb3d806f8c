/-
  PDUs: the program's read.
-/
import Derived.Test.YtodmpchnjakchaaPduCut
import Derived.Test.YtodmpchnjakchaaPduRefC
import Derived.StillTailTactics
import Derived.Deep.MidRow
namespace Go.Proofs.Ytodmpchnjakchaa
open Go.RowKit

theorem results_cell {P : Program} {w : World} {fn : Func} {a T b : Nat} {cs : List Value} {d : TypeDesc} (h : fn.results = #[.cell a T]) (tmps : Array Value) (ht : tmps.getD a undef = .pointer (some ⟨b, 0, none⟩)) (hc : w.rangeAt b 0 cs)
    (hu : P.underlying T = some d) (hd : d.isRow = true) (hi : (P.info? T).map (·.size) = some cs.length) : (results fn tmps).run P w = .ok (.agg cs.toArray) w := by
  simp only [results, h, List.mapM_cons, List.mapM_nil, ht, asAddr, Sem.run_bind, Sem.run_pure, Result.andThen_ok, run_loadVar_mid w b 0 T cs d hc hu hd hi, Array.mapM_eq_mapM_toList, Sem.run_map]
  rfl

theorem ops_at0 {x0 : Oper} {l : List Oper} : (x0 :: l).toArray[0]? = some x0 := rfl
theorem ops_at1 {x0 x1 : Oper} {l : List Oper} : (x0 :: x1 :: l).toArray[1]? = some x1 := rfl
theorem ops_at2 {x0 x1 x2 : Oper} {l : List Oper} : (x0 :: x1 :: x2 :: l).toArray[2]? = some x2 := rfl
theorem ops_at3 {x0 x1 x2 x3 : Oper} {l : List Oper} : (x0 :: x1 :: x2 :: x3 :: l).toArray[3]? = some x3 := rfl
theorem ops_at4 {x0 x1 x2 x3 x4 : Oper} {l : List Oper} : (x0 :: x1 :: x2 :: x3 :: x4 :: l).toArray[4]? = some x4 := rfl
theorem ops_at5 {x0 x1 x2 x3 x4 x5 : Oper} {l : List Oper} : (x0 :: x1 :: x2 :: x3 :: x4 :: x5 :: l).toArray[5]? = some x5 := rfl
theorem ops_at6 {x0 x1 x2 x3 x4 x5 x6 : Oper} {l : List Oper} : (x0 :: x1 :: x2 :: x3 :: x4 :: x5 :: x6 :: l).toArray[6]? = some x6 := rfl
theorem ops_at7 {x0 x1 x2 x3 x4 x5 x6 x7 : Oper} {l : List Oper} : (x0 :: x1 :: x2 :: x3 :: x4 :: x5 :: x6 :: x7 :: l).toArray[7]? = some x7 := rfl
theorem ops_at8 {x0 x1 x2 x3 x4 x5 x6 x7 x8 : Oper} {l : List Oper} : (x0 :: x1 :: x2 :: x3 :: x4 :: x5 :: x6 :: x7 :: x8 :: l).toArray[8]? = some x8 := rfl
theorem ops_at9 {x0 x1 x2 x3 x4 x5 x6 x7 x8 x9 : Oper} {l : List Oper} : (x0 :: x1 :: x2 :: x3 :: x4 :: x5 :: x6 :: x7 :: x8 :: x9 :: l).toArray[9]? = some x9 := rfl
theorem ops_at10 {x0 x1 x2 x3 x4 x5 x6 x7 x8 x9 x10 : Oper} {l : List Oper} : (x0 :: x1 :: x2 :: x3 :: x4 :: x5 :: x6 :: x7 :: x8 :: x9 :: x10 :: l).toArray[10]? = some x10 := rfl
theorem ops_at11 {x0 x1 x2 x3 x4 x5 x6 x7 x8 x9 x10 x11 : Oper} {l : List Oper} : (x0 :: x1 :: x2 :: x3 :: x4 :: x5 :: x6 :: x7 :: x8 :: x9 :: x10 :: x11 :: l).toArray[11]? = some x11 := rfl
theorem ops_at12 {x0 x1 x2 x3 x4 x5 x6 x7 x8 x9 x10 x11 x12 : Oper} {l : List Oper} : (x0 :: x1 :: x2 :: x3 :: x4 :: x5 :: x6 :: x7 :: x8 :: x9 :: x10 :: x11 :: x12 :: l).toArray[12]? = some x12 := rfl
theorem ops_at13 {x0 x1 x2 x3 x4 x5 x6 x7 x8 x9 x10 x11 x12 x13 : Oper} {l : List Oper} : (x0 :: x1 :: x2 :: x3 :: x4 :: x5 :: x6 :: x7 :: x8 :: x9 :: x10 :: x11 :: x12 :: x13 :: l).toArray[13]? = some x13 := rfl
theorem ops_at14 {x0 x1 x2 x3 x4 x5 x6 x7 x8 x9 x10 x11 x12 x13 x14 : Oper} {l : List Oper} : (x0 :: x1 :: x2 :: x3 :: x4 :: x5 :: x6 :: x7 :: x8 :: x9 :: x10 :: x11 :: x12 :: x13 :: x14 :: l).toArray[14]? = some x14 := rfl
theorem ops_at15 {x0 x1 x2 x3 x4 x5 x6 x7 x8 x9 x10 x11 x12 x13 x14 x15 : Oper} {l : List Oper} : (x0 :: x1 :: x2 :: x3 :: x4 :: x5 :: x6 :: x7 :: x8 :: x9 :: x10 :: x11 :: x12 :: x13 :: x14 :: x15 :: l).toArray[15]? = some x15 := rfl
theorem ops_at16 {x0 x1 x2 x3 x4 x5 x6 x7 x8 x9 x10 x11 x12 x13 x14 x15 x16 : Oper} {l : List Oper} : (x0 :: x1 :: x2 :: x3 :: x4 :: x5 :: x6 :: x7 :: x8 :: x9 :: x10 :: x11 :: x12 :: x13 :: x14 :: x15 :: x16 :: l).toArray[16]? = some x16 := rfl
theorem or_byte (a b : Nat) (ha : a < 1099511627776) (hb : b < 256) : bits .or .i64 ((a : Int) * 256) (b : Int) = ((256 * a + b : Nat) : Int) := by
  have h : (a * 256) ||| b = a * 256 + b := nat_join 8 (a * 256) b (by omega) (by omega)
  show IntKind.i64.wrap ((BitVec.ofInt 64 ((a : Int) * 256) ||| BitVec.ofInt 64 (b : Int)).toNat : Int) = _
  rw [BitVec.toNat_or, show ((a : Int) * 256) = ((a * 256 : Nat) : Int) by omega, ofInt_u64 (a * 256) (by omega), ofInt_u64 b (by omega), h, IntWalk.i64_in _ (by omega)]
  omega
theorem numAt_small (l : List Nat) (a k : Nat) (hB : Crc.Bytes l) (hk : k ≤ 5) : Pdu.numAt l a k < 1099511627776 := by
  have h1 := numAt_lt l a k hB
  have h2 : 256 ^ k ≤ 256 ^ 5 := Nat.pow_le_pow_right (by omega) hk
  have h3 : (256 : Nat) ^ 5 = 1099511627776 := by decide
  omega
theorem and63 (b : Nat) (h : b < 256) : bits .and .u8 (b : Int) 63 = ((b % 64 : Nat) : Int) := by
  have : ∀ b : Fin 256, bits .and .u8 ((b.val : Nat) : Int) 63 = ((b.val % 64 : Nat) : Int) := by decide +kernel
  exact this ⟨b, h⟩
theorem and64 (b : Nat) (h : b < 256) : (bits .and .u8 (b : Int) 64 != 0) = (b / 64 % 2 == 1) := by
  have : ∀ b : Fin 256, (bits .and .u8 ((b.val : Nat) : Int) 64 != 0) = (b.val / 64 % 2 == 1) := by decide +kernel
  exact this ⟨b, h⟩

/-- What is read so far: i fields, and acc of the next one. -/
def fieldVal (l : List Nat) (m : Nat) : Nat := Pdu.numAt l (Pdu.fat m) (Pdu.fsz m)
def rdAt (l : List Nat) (i acc m : Nat) : Int := if m < i then (fieldVal l m : Int) else if m = i then (acc : Int) else 0
def rd (l : List Nat) (i acc : Nat) : Pdu.PD := ⟨((l.getD 0 0 % 64 : Nat) : Int), l.getD 0 0 / 64 % 2 == 1, rdAt l i acc 0, rdAt l i acc 1, rdAt l i acc 2, rdAt l i acc 3, rdAt l i acc 4, rdAt l i acc 5, rdAt l i acc 6, rdAt l i acc 7, (l.drop 32).take 16, []⟩
theorem rd_end (l : List Nat) : rd l 8 0 = Pdu.read l := rfl
theorem rd_next (l : List Nat) (i : Nat) (h : i < 8) : rd l i (fieldVal l i) = rd l (i + 1) 0 := by
  have : i = 0 ∨ i = 1 ∨ i = 2 ∨ i = 3 ∨ i = 4 ∨ i = 5 ∨ i = 6 ∨ i = 7 := by omega
  rcases this with rfl | rfl | rfl | rfl | rfl | rfl | rfl | rfl <;> rfl
theorem rd_cells_set (l : List Nat) (i acc acc' : Nat) (h : i < 8) (dv : Value) (j : Nat) : ((rd l i acc').cells dv)[j]? = if j = Pdu.foff i then some (.int .i64 (acc' : Int)) else ((rd l i acc).cells dv)[j]? := by
  have : i = 0 ∨ i = 1 ∨ i = 2 ∨ i = 3 ∨ i = 4 ∨ i = 5 ∨ i = 6 ∨ i = 7 := by omega
  have e : (rd l i acc').cells dv = ((rd l i acc).cells dv).setIfInBounds (Pdu.foff i) (.int .i64 (acc' : Int)) := by
    rcases this with rfl | rfl | rfl | rfl | rfl | rfl | rfl | rfl <;> rfl
  have s : Pdu.foff i < ((rd l i acc).cells dv).size := by rw [cells_size]; have := Pdu.field_small i h; omega
  rw [e]
  by_cases hj : j = Pdu.foff i
  · subst hj
    rw [if_pos rfl, Array.getElem?_setIfInBounds_self_of_lt s]
  · rw [if_neg hj, Array.getElem?_setIfInBounds_ne (fun e => hj e.symm)]


theorem keeps_setCells (b : Nat) : ∀ (vs : List Value) (o : Nat) (w : World), Keeps (· = b) w (w.setCells b o vs) ∧ (w.setCells b o vs).heap.size = w.heap.size
  | [], _, w => ⟨Keeps.refl _ w, rfl⟩
  | v :: r, o, w => by
    rw [World.setCells]
    obtain ⟨h1, h2⟩ := keeps_setCells b r (o + 1) (w.setCell ⟨b, o, none⟩ v)
    exact ⟨((Keeps.refl (· = b) w).setCell (fun _ => rfl) v).trans h1 (fun _ _ h => h), h2.trans (by simp [World.setCell])⟩
theorem all_one_pd (q : Pdu.PD) (dv : Value) (h : dv.oneCell' = true) : (q.cells dv).all (·.oneCell') = true := by
  cases dv <;> first | (simp [Value.oneCell'] at h; done) | simp [Pdu.PD.cells, Value.oneCell']
theorem frozen_new (w : World) (c : Array Value) (T : TypeId) (j : Nat) : (w.alloc (.cells c T)).frozen? ⟨w.heap.size, j, none⟩ = false := by
  rw [frozen?_alloc_cells]
  simp [World.frozen?]
/-- A whole PDU is stored. -/
theorem wp_store_pd {op : Oper} {a : Act} {w : World} {K : Act → World → Prop} {Q : Exit → Act → World → Prop} (T : TypeId) (x y : Operand) (ho : op.op = .store T x y) (b : Nat) (p0 q : Pdu.PD) (dv0 dv : Value)
    (hx : a.eval x = .pointer (some ⟨b, 0, none⟩)) (hy : a.eval y = .agg (q.cells dv)) (hc : ∀ j, w.cell? ⟨b, j, none⟩ = (p0.cells dv0)[j]?) (hf : ∀ j, w.frozen? ⟨b, j, none⟩ = false) (hdv : dv.oneCell' = true)
    (hi : (Try.prog.info? T).map (·.size) = some 27)
    (h : ∀ w', (∀ j, w'.cell? ⟨b, j, none⟩ = (q.cells dv)[j]?) → (∀ j, w'.frozen? ⟨b, j, none⟩ = false) → Keeps (· = b) w w' → w'.heap.size = w.heap.size → K (a.put op.dst undef) w') : op.wp Try.prog a w K Q := by
  have ht : w.there b 0 27 := fun j hj => by
    rw [Nat.zero_add]
    refine ⟨?_, hf j⟩
    rw [hc j, Array.getElem?_eq_getElem (by rw [cells_size]; exact hj)]
    rfl
  have hsz : (q.cells dv).toList.length = 27 := rfl
  have hk := keeps_setCells b (q.cells dv).toList 0 w
  refine wp_store_mid T x y ho b 0 (q.cells dv) hx hy ht (by rw [hi]; rfl) (all_one_pd q dv hdv) (h _ (fun j => ?_) (fun j => ?_) hk.1 hk.2)
  · rcases Nat.lt_or_ge j 27 with hj | hj
    · have hr := World.rangeAt_setCells_same w b 0 (q.cells dv).toList (by rw [hsz]; exact ht) j ((q.cells dv)[j]'(by rw [cells_size]; exact hj)) (by simp)
      rw [Nat.zero_add] at hr
      rw [hr, Array.getElem?_eq_getElem (by rw [cells_size]; exact hj)]
    · rw [World.cell?_setCells_out b (q.cells dv).toList 0 w ⟨b, j, none⟩ (fun _ _ => .inr (by rw [hsz]; show 0 + 27 ≤ j; omega)), hc j, Array.getElem?_eq_none (by rw [cells_size]; exact hj), Array.getElem?_eq_none (by rw [cells_size]; exact hj)]
  · rw [World.frozen?_setCells]; exact hf j
theorem wpList_store_pd {ops : Array Oper} {rest : List Oper} {op : Oper} {a : Act} {w : World} {Q : Exit → Act → World → Prop} (hgd : op.guard = none) (T : TypeId) (x y : Operand) (ho : op.op = .store T x y) (b : Nat) (p0 q : Pdu.PD) (dv0 dv : Value)
    (hx : a.eval x = .pointer (some ⟨b, 0, none⟩)) (hy : a.eval y = .agg (q.cells dv)) (hc : ∀ j, w.cell? ⟨b, j, none⟩ = (p0.cells dv0)[j]?) (hf : ∀ j, w.frozen? ⟨b, j, none⟩ = false) (hdv : dv.oneCell' = true)
    (hi : (Try.prog.info? T).map (·.size) = some 27)
    (h : ∀ w', (∀ j, w'.cell? ⟨b, j, none⟩ = (q.cells dv)[j]?) → (∀ j, w'.frozen? ⟨b, j, none⟩ = false) → Keeps (· = b) w w' → w'.heap.size = w.heap.size → wpList Try.prog ops Q rest (a.put op.dst undef) w') : wpList Try.prog ops Q (op :: rest) a w :=
  wpList_plain hgd fun _ hK => wp_store_pd T x y ho b p0 q dv0 dv hx hy hc hf hdv hi fun w' h1 h2 h3 h4 => hK _ _ (h w' h1 h2 h3 h4)

set_option maxRecDepth 100000 in
set_option maxHeartbeats 6400000 in
theorem read_any (B o n c : Nat) (l : List Nat) (w : World) (h : BytesAt w (.slice (some ⟨B, o, none⟩) n c) l) (hB : Crc.Bytes l) (h48 : 48 ≤ n) (hcap : n ≤ c) :
    Calls Try.prog 26 #[.slice (some ⟨B, o, none⟩) n c] w fun e w' => e = .returned (.agg ((Pdu.read l).cells (.slice none 0 0))) ∧ Below w.heap.size w w' := by
  have hn := h.length
  have hc32 : ¬ c = 32 := by omega
  have hcell : ∀ j, j < l.length → w.cell? ⟨B, o + j, none⟩ = some (.int .u8 (l.getD j 0 : Nat)) := fun j hj => by
    obtain ⟨b', o', e, _, hc⟩ := h.at j hj
    injection e with e
    injection e with e1 e2
    subst e1; subst e2
    exact hc
  have hBl : B < w.heap.size := block_lt (hcell 0 (by omega))
  have HCell := Lib.hid (show ∀ V, Below w.heap.size w V → ∀ j, j < l.length → V.cell? ⟨B, o + j, none⟩ = some (.int .u8 (l.getD j 0 : Nat)) from fun V hV j hj => (hV.cell (p := ⟨B, o + j, none⟩) hBl).trans (hcell j hj))
  have hb0 : l.getD 0 0 < 256 := getD_byte hB 0
  have htb : ∀ i, i < 16 → (rd l 0 0).tb i = l.getD (32 + i) 0 := fun i hi => by
    show ((l.drop 32).take 16).getD i 0 = _
    simp [List.getD, hi]
  have HSS := Lib.hid (show ∀ V, Below w.heap.size w V → V.cell? ⟨B, o, none⟩ = some (.int .u8 (l.getD 0 0 : Nat)) ∧ V.rangeAt B (o + 32) [.int .u8 ((rd l 0 0).tb 0 : Nat), .int .u8 ((rd l 0 0).tb 1 : Nat), .int .u8 ((rd l 0 0).tb 2 : Nat), .int .u8 ((rd l 0 0).tb 3 : Nat), .int .u8 ((rd l 0 0).tb 4 : Nat), .int .u8 ((rd l 0 0).tb 5 : Nat), .int .u8 ((rd l 0 0).tb 6 : Nat), .int .u8 ((rd l 0 0).tb 7 : Nat), .int .u8 ((rd l 0 0).tb 8 : Nat), .int .u8 ((rd l 0 0).tb 9 : Nat), .int .u8 ((rd l 0 0).tb 10 : Nat), .int .u8 ((rd l 0 0).tb 11 : Nat), .int .u8 ((rd l 0 0).tb 12 : Nat), .int .u8 ((rd l 0 0).tb 13 : Nat), .int .u8 ((rd l 0 0).tb 14 : Nat), .int .u8 ((rd l 0 0).tb 15 : Nat)] from fun V hV => ⟨HCell.out V hV 0 (by omega), fun j v hj => by
    have hj16 : j < 16 := (List.getElem?_eq_some_iff.1 hj).1
    rw [Nat.add_assoc, HCell.out V hV (32 + j) (by omega), ← htb j hj16, ← hj]
    have : j = 0 ∨ j = 1 ∨ j = 2 ∨ j = 3 ∨ j = 4 ∨ j = 5 ∨ j = 6 ∨ j = 7 ∨ j = 8 ∨ j = 9 ∨ j = 10 ∨ j = 11 ∨ j = 12 ∨ j = 13 ∨ j = 14 ∨ j = 15 := by omega
    rcases this with rfl | rfl | rfl | rfl | rfl | rfl | rfl | rfl | rfl | rfl | rfl | rfl | rfl | rfl | rfl | rfl <;> rfl⟩)
  have HByt := Lib.hid hB
  have a63 := and63 _ hb0
  have a64 := and64 _ hb0
  obtain ⟨b0, hb0e⟩ : ∃ b0, b0 = l.getD 0 0 := ⟨_, rfl⟩
  have HB0 := Lib.hid hb0e
  rw [← hb0e] at a63 a64 HSS hb0
  obtain ⟨im, him⟩ : ∃ im, im = (b0 / 64 % 2 == 1) := ⟨_, rfl⟩
  rw [← him] at a64
  have HIm := Lib.hid him
  clear him
  have hi0 : (0 : Int) < (n : Int) := by omega
  have hi1 : (48 : Int) ≤ (c : Int) := by omega
  have hAA : ∀ (V : World) (a : Option Addr) (c : Nat), (Instr.arrayAt 22 (.slice a 16 c)).run Try.prog V = .ok (.pointer a) V := fun V a c => by
    unfold Instr.arrayAt
    rw [Sem.run_bind, run_underlying Try.underlying22 V]
    rfl
  clear h hcell htb hB hb0e
  obtain ⟨W0, hW0⟩ : ∃ W0, W0 = w.alloc (.cells #[.int .i64 0, .bool false, .int .i64 0, .int .i64 0, .int .i64 0, .int .i64 0, .int .i64 0, .int .i64 0, .int .i64 0, .int .i64 0, .int .u8 0, .int .u8 0, .int .u8 0, .int .u8 0, .int .u8 0, .int .u8 0, .int .u8 0, .int .u8 0, .int .u8 0, .int .u8 0, .int .u8 0, .int .u8 0, .int .u8 0, .int .u8 0, .int .u8 0, .int .u8 0, .slice none 0 0] 32) := ⟨_, rfl⟩
  have hb1 : Below w.heap.size w W0 := by rw [hW0]; exact allocBelow w _
  have hs0 : W0.heap.size = w.heap.size + 1 := by rw [hW0]; simp
  go_enter Try.func26, Try.ntmps26
  go_upto_region 1 with fail
  rw [← hW0]
  have hU := Try.underlying22
  have hI : (Try.prog.info? 22).map (·.size) = some 16 := by kernel_rfl
  have hU2 := Try.underlying32
  have hI2 : (Try.prog.info? 32).map (·.size) = some 27 := by kernel_rfl
  have HB1 := Lib.hid hb1; clear hb1
  have HW0 := Lib.hid hW0; clear hW0
  refine wp_region_held_drew (S := (fun w' => w'.cell? ⟨B, o, none⟩ = some (.int .u8 (b0 : Int)) ∧ w'.rangeAt B (o + 32) [.int .u8 ((rd l 0 0).tb 0 : Nat), .int .u8 ((rd l 0 0).tb 1 : Nat), .int .u8 ((rd l 0 0).tb 2 : Nat), .int .u8 ((rd l 0 0).tb 3 : Nat), .int .u8 ((rd l 0 0).tb 4 : Nat), .int .u8 ((rd l 0 0).tb 5 : Nat), .int .u8 ((rd l 0 0).tb 6 : Nat), .int .u8 ((rd l 0 0).tb 7 : Nat), .int .u8 ((rd l 0 0).tb 8 : Nat), .int .u8 ((rd l 0 0).tb 9 : Nat), .int .u8 ((rd l 0 0).tb 10 : Nat), .int .u8 ((rd l 0 0).tb 11 : Nat), .int .u8 ((rd l 0 0).tb 12 : Nat), .int .u8 ((rd l 0 0).tb 13 : Nat), .int .u8 ((rd l 0 0).tb 14 : Nat), .int .u8 ((rd l 0 0).tb 15 : Nat)])) (by kernel_rfl) (HSS.out _ HB1.out.drew) (fun hHeld => ?_)
  refine wpAnyH_take (i := 0) (v := .slice (some ⟨B, o, none⟩) n c) ops_at0 (by kernel_rfl) (by kernel_rfl) (by kernel_rfl) (fun _ _ _ h => h) (Or.inl ⟨by rfl, fun V hV => ?_⟩) hHeld ?_
  · obtain ⟨hV, _⟩ := hV
    go_simp
  simp only [Act.put, List.setIfInBounds_toArray, List.set_cons_zero, List.set_cons_succ]
  refine wpAnyH_take (i := 1) (v := .pointer (some ⟨B, o, none⟩)) ops_at1 (by kernel_rfl) (by kernel_rfl) (by kernel_rfl) (fun _ _ _ h => h) (Or.inl ⟨by rfl, fun V hV => ?_⟩) hHeld ?_
  · obtain ⟨hV, _⟩ := hV
    go_simp
    intro h; omega
  simp only [Act.put, List.setIfInBounds_toArray, List.set_cons_zero, List.set_cons_succ]
  refine wpAnyH_take (i := 2) (v := .int .u8 (b0 : Int)) ops_at2 (by kernel_rfl) (by kernel_rfl) (by kernel_rfl) (fun _ _ _ h => h) (Or.inl ⟨by rfl, fun V hV => ?_⟩) hHeld ?_
  · obtain ⟨hV, _⟩ := hV
    go_simp
  simp only [Act.put, List.setIfInBounds_toArray, List.set_cons_zero, List.set_cons_succ]
  refine wpAnyH_take (i := 3) (v := .int .u8 ((b0 % 64 : Nat) : Int)) ops_at3 (by kernel_rfl) (by kernel_rfl) (by kernel_rfl) (fun _ _ _ h => h) (Or.inl ⟨by rfl, fun V hV => ?_⟩) hHeld ?_
  · obtain ⟨hV, _⟩ := hV
    go_simp
  simp only [Act.put, List.setIfInBounds_toArray, List.set_cons_zero, List.set_cons_succ]
  refine wpAnyH_take (i := 4) (v := .int .i64 ((b0 % 64 : Nat) : Int)) ops_at4 (by kernel_rfl) (by kernel_rfl) (by kernel_rfl) (fun _ _ _ h => h) (Or.inl ⟨by rfl, fun V hV => ?_⟩) hHeld ?_
  · obtain ⟨hV, _⟩ := hV
    go_simp
    exact IntWalk.i64_in _ (by omega)
  simp only [Act.put, List.setIfInBounds_toArray, List.set_cons_zero, List.set_cons_succ]
  refine wpAnyH_take (i := 5) (v := .slice (some ⟨B, o, none⟩) n c) ops_at5 (by kernel_rfl) (by kernel_rfl) (by kernel_rfl) (fun _ _ _ h => h) (Or.inl ⟨by rfl, fun V hV => ?_⟩) hHeld ?_
  · obtain ⟨hV, _⟩ := hV
    go_simp
  simp only [Act.put, List.setIfInBounds_toArray, List.set_cons_zero, List.set_cons_succ]
  refine wpAnyH_take (i := 6) (v := .pointer (some ⟨B, o, none⟩)) ops_at6 (by kernel_rfl) (by kernel_rfl) (by kernel_rfl) (fun _ _ _ h => h) (Or.inl ⟨by rfl, fun V hV => ?_⟩) hHeld ?_
  · obtain ⟨hV, _⟩ := hV
    go_simp
    intro h; omega
  simp only [Act.put, List.setIfInBounds_toArray, List.set_cons_zero, List.set_cons_succ]
  refine wpAnyH_take (i := 7) (v := .int .u8 (b0 : Int)) ops_at7 (by kernel_rfl) (by kernel_rfl) (by kernel_rfl) (fun _ _ _ h => h) (Or.inl ⟨by rfl, fun V hV => ?_⟩) hHeld ?_
  · obtain ⟨hV, _⟩ := hV
    go_simp
  simp only [Act.put, List.setIfInBounds_toArray, List.set_cons_zero, List.set_cons_succ]
  refine wpAnyH_take (i := 8) (v := .int .u8 (bits .and .u8 (b0 : Int) 64)) ops_at8 (by kernel_rfl) (by kernel_rfl) (by kernel_rfl) (fun _ _ _ h => h) (Or.inl ⟨by rfl, fun V hV => ?_⟩) hHeld ?_
  · obtain ⟨hV, _⟩ := hV
    go_simp
  simp only [Act.put, List.setIfInBounds_toArray, List.set_cons_zero, List.set_cons_succ]
  refine wpAnyH_take (i := 9) (v := .bool im) ops_at9 (by kernel_rfl) (by kernel_rfl) (by kernel_rfl) (fun _ _ _ h => h) (Or.inl ⟨by rfl, fun V hV => ?_⟩) hHeld ?_
  · obtain ⟨hV, _⟩ := hV
    go_simp
  simp only [Act.put, List.setIfInBounds_toArray, List.set_cons_zero, List.set_cons_succ]
  refine wpAnyH_take (i := 10) (v := .slice (some ⟨B, o, none⟩) n c) ops_at10 (by kernel_rfl) (by kernel_rfl) (by kernel_rfl) (fun _ _ _ h => h) (Or.inl ⟨by rfl, fun V hV => ?_⟩) hHeld ?_
  · obtain ⟨hV, _⟩ := hV
    go_simp
  simp only [Act.put, List.setIfInBounds_toArray, List.set_cons_zero, List.set_cons_succ]
  refine wpAnyH_take (i := 11) (v := .slice (some ⟨B, o + 32, none⟩) 16 (c - 32)) ops_at11 (by kernel_rfl) (by kernel_rfl) (by kernel_rfl) (fun _ _ _ h => h) (Or.inl ⟨by rfl, fun V hV => ?_⟩) hHeld ?_
  · obtain ⟨hV, _⟩ := hV
    go_simp
  simp only [Act.put, List.setIfInBounds_toArray, List.set_cons_zero, List.set_cons_succ]
  refine wpAnyH_take (i := 12) (v := .pointer (some ⟨B, o + 32, none⟩)) ops_at12 (by kernel_rfl) (by kernel_rfl) (by kernel_rfl) (fun _ _ _ h => h) (Or.inl ⟨by rfl, fun V hV => ?_⟩) hHeld ?_
  · obtain ⟨hV, _⟩ := hV
    go_simp
  simp only [Act.put, List.setIfInBounds_toArray, List.set_cons_zero, List.set_cons_succ]
  refine wpAnyH_take (i := 13) ops_at13 (by kernel_rfl) (by kernel_rfl) (by kernel_rfl) (fun _ _ _ h => h) (yieldsIf_load_mid (by rfl) 22 _ rfl B (o + 32) rfl [.int .u8 ((rd l 0 0).tb 0 : Nat), .int .u8 ((rd l 0 0).tb 1 : Nat), .int .u8 ((rd l 0 0).tb 2 : Nat), .int .u8 ((rd l 0 0).tb 3 : Nat), .int .u8 ((rd l 0 0).tb 4 : Nat), .int .u8 ((rd l 0 0).tb 5 : Nat), .int .u8 ((rd l 0 0).tb 6 : Nat), .int .u8 ((rd l 0 0).tb 7 : Nat), .int .u8 ((rd l 0 0).tb 8 : Nat), .int .u8 ((rd l 0 0).tb 9 : Nat), .int .u8 ((rd l 0 0).tb 10 : Nat), .int .u8 ((rd l 0 0).tb 11 : Nat), .int .u8 ((rd l 0 0).tb 12 : Nat), .int .u8 ((rd l 0 0).tb 13 : Nat), .int .u8 ((rd l 0 0).tb 14 : Nat), .int .u8 ((rd l 0 0).tb 15 : Nat)] _ (fun V hV => hV.2) hU rfl hI) hHeld ?_
  simp only [Act.put, List.setIfInBounds_toArray, List.set_cons_zero, List.set_cons_succ]
  refine wpAnyH_take (i := 14) (v := .agg #[.int .i64 ((b0 % 64 : Nat) : Int), .bool im, .int .i64 0, .int .i64 0, .int .i64 0, .int .i64 0, .int .i64 0, .int .i64 0, .int .i64 0, .int .i64 0, .int .u8 ((rd l 0 0).tb 0 : Nat), .int .u8 ((rd l 0 0).tb 1 : Nat), .int .u8 ((rd l 0 0).tb 2 : Nat), .int .u8 ((rd l 0 0).tb 3 : Nat), .int .u8 ((rd l 0 0).tb 4 : Nat), .int .u8 ((rd l 0 0).tb 5 : Nat), .int .u8 ((rd l 0 0).tb 6 : Nat), .int .u8 ((rd l 0 0).tb 7 : Nat), .int .u8 ((rd l 0 0).tb 8 : Nat), .int .u8 ((rd l 0 0).tb 9 : Nat), .int .u8 ((rd l 0 0).tb 10 : Nat), .int .u8 ((rd l 0 0).tb 11 : Nat), .int .u8 ((rd l 0 0).tb 12 : Nat), .int .u8 ((rd l 0 0).tb 13 : Nat), .int .u8 ((rd l 0 0).tb 14 : Nat), .int .u8 ((rd l 0 0).tb 15 : Nat), .slice none 0 0]) ops_at14 (by kernel_rfl) (by kernel_rfl) (by kernel_rfl) (fun _ _ _ h => h) (Or.inl ⟨by rfl, fun V hV => ?_⟩) hHeld ?_
  · obtain ⟨hV, _⟩ := hV
    go_simp
  simp only [Act.put, List.setIfInBounds_toArray, List.set_cons_zero, List.set_cons_succ]
  refine wpAnyH_ready (rs := [15]) (by kernel_rfl) (by simp) ?_
  refine AllReadyH.cons ops_at15 (fun K hK => ?_) AllReadyH.nil
  rw [if_pos (by rfl)]
  go_simp
  refine hK.out _ _ (HSS.out _ (HB1.out.drew.alloc (by simp; omega) _)) (fun hHeld2 => ?_)
  clear hK K
  refine wpAnyH_ready (rs := [16]) (by kernel_rfl) (by simp) ?_
  refine AllReadyH.cons ops_at16 (fun K hK => ?_) AllReadyH.nil
  rw [if_pos (by rfl)]
  obtain ⟨W1, hW1⟩ : ∃ W1, W1 = (W0.alloc (.cells #[.int .i64 0, .bool false, .int .i64 0, .int .i64 0, .int .i64 0, .int .i64 0, .int .i64 0, .int .i64 0, .int .i64 0, .int .i64 0, .int .u8 0, .int .u8 0, .int .u8 0, .int .u8 0, .int .u8 0, .int .u8 0, .int .u8 0, .int .u8 0, .int .u8 0, .int .u8 0, .int .u8 0, .int .u8 0, .int .u8 0, .int .u8 0, .int .u8 0, .int .u8 0, .slice none 0 0] 32)).drew := ⟨_, rfl⟩
  rw [← hW1]
  have hz1 : ∀ j, W1.cell? ⟨W0.heap.size, j, none⟩ = (Pdu.pdZero.cells (.slice none 0 0))[j]? := fun j => by rw [hW1]; exact World.cell?_alloc_new _ _ _ _
  have hf1 : ∀ j, W1.frozen? ⟨W0.heap.size, j, none⟩ = false := fun j => by rw [hW1]; exact frozen_new _ _ _ _
  have hb2 : Below W0.heap.size W0 W1 := by rw [hW1]; exact (allocBelow W0 _).drew
  have hs1 : W1.heap.size = W0.heap.size + 1 := by rw [hW1]; simp
  rw [hs0] at hz1 hf1
  refine wp_store_pd 32 _ _ rfl (w.heap.size + 1) Pdu.pdZero (rd l 0 0) (.slice none 0 0) (.slice none 0 0) rfl ?_ hz1 hf1 rfl hI2 (fun W2 hc2 hf2 hk2 hs2 => ?_)
  · have e1 := HB0.out
    have e2 := HIm.out
    subst e1
    subst e2
    rfl
  have HK2 := Lib.hid hk2
  have HC2 := Lib.hid hc2
  have HF2 := Lib.hid hf2
  have HBW1 := Lib.hid hb2
  have hBel2 : Below w.heap.size w W2 := HB1.out.trans ((HBW1.out.mono (by omega)).trans (HK2.out.below (by omega) (fun z h1 h2 => by omega)))
  have HB2 := Lib.hid hBel2
  clear hc2 hf2 hk2 hz1 hf1 hW1 hBel2 hb2
  refine hK.out _ _ (HSS.out _ HB2.out) (fun hHeld3 => ?_)
  clear hK K
  refine wpAnyH_done (by kernel_rfl) ?_ _
  have hp1 : w.heap.size + 1 < W2.heap.size := by omega
  have HR2 := Lib.hid (show ∀ j, W2.cell? ⟨w.heap.size, j, none⟩ = (Pdu.pdZero.cells (.slice none 0 0))[j]? from fun j => by
    rw [HK2.out.cell (p := ⟨w.heap.size, j, none⟩) (by simp; omega) (by simp), HBW1.out.cell (p := ⟨w.heap.size, j, none⟩) (by simp; omega), HW0.out]
    exact World.cell?_alloc_new _ _ _ _)
  have HG2 := Lib.hid (show ∀ j, W2.frozen? ⟨w.heap.size, j, none⟩ = false from fun j => by
    rw [HK2.out.frozen (p := ⟨w.heap.size, j, none⟩) (by simp; omega) (by simp), HBW1.out.frozen (p := ⟨w.heap.size, j, none⟩) (by simp; omega), HW0.out]
    exact frozen_new _ _ _ _)
  clear HW0 HB1 HBW1 HK2 HSS hs0 hs1 hs2 hHeld hHeld2 hHeld3 hU hI a63 a64 hi0 hi1 hAA
  obtain ⟨P, hP⟩ : ∃ P, P = w.heap.size + 1 := ⟨_, rfl⟩
  rw [← hP] at HC2 HF2 hp1
  obtain ⟨FB, hFB⟩ : ∃ FB, FB = W2.heap.size := ⟨_, rfl⟩
  have HFl := Lib.hid (fields_any P W2)
  rw [← hFB] at HFl
  go_upto_region 2 with fail
  rw [← hP]
  have hPw : w.heap.size < P := by omega
  have hFP : P < FB := by omega
  have HP := Lib.hid hP; clear hP
  have HFB := Lib.hid hFB; clear hFB
  go_wp2_with fail
  refine HFl.out.mono ?_
  rintro e V ⟨rfl, hfc, hb, hsV⟩
  have hb' : Below W2.heap.size W2 V := by rw [← HFB.out]; exact hb
  have HFC := Lib.hid hfc
  have hFW := HFB.out
  have HCV := Lib.hid (show ∀ j, V.cell? ⟨P, j, none⟩ = ((rd l 0 0).cells (.slice none 0 0))[j]? from fun j => (hb'.cell (p := ⟨P, j, none⟩) (by simp; omega)).trans (HC2.out j))
  have HFV := Lib.hid (show ∀ j, V.frozen? ⟨P, j, none⟩ = false from fun j => (hb'.frozen (p := ⟨P, j, none⟩) (by simp; omega)).trans (HF2.out j))
  have HRV := Lib.hid (show ∀ j, V.cell? ⟨w.heap.size, j, none⟩ = (Pdu.pdZero.cells (.slice none 0 0))[j]? from fun j => (hb'.cell (p := ⟨w.heap.size, j, none⟩) (by simp; omega)).trans (HR2.out j))
  have HGV := Lib.hid (show ∀ j, V.frozen? ⟨w.heap.size, j, none⟩ = false from fun j => (hb'.frozen (p := ⟨w.heap.size, j, none⟩) (by simp; omega)).trans (HG2.out j))
  have HBV := Lib.hid (HB2.out.trans (hb'.mono (by omega)))
  clear hfc hb hb' HFl HC2 HF2 HR2 HG2 HB2 hFW
  go_wp2_with fail
  go_loopg [25] 8 (fun g s25 wx => ∃ i : Nat, s25 = .int .i64 i ∧ i + g = 8 ∧ (∀ j, wx.cell? ⟨P, j, none⟩ = ((rd l i 0).cells (.slice none 0 0))[j]?) ∧ (∀ j, wx.frozen? ⟨P, j, none⟩ = false) ∧ Keeps (· = P) V wx)
  case atStart => exact ⟨0, rfl, by omega, HCV.out, HFV.out, Keeps.refl _ _⟩
  case round =>
    clear HCV HFV
    obtain ⟨i, rfl, hig, hcr, hfr, hkr⟩ := hrel
    have HCr := Lib.hid hcr; clear hcr
    have HFr := Lib.hid hfr; clear hfr
    have HKr := Lib.hid hkr; clear hkr
    have hsr := HKr.out.size
    have HBr := Lib.hid (HBV.out.trans (HKr.out.below (B := w.heap.size) (by omega) (fun z h1 h2 => by omega)))
    by_cases hi : i < 8
    case neg =>
      obtain rfl : i = 8 := by omega
      have HRr := Lib.hid (show ∀ j, wr.cell? ⟨w.heap.size, j, none⟩ = (Pdu.pdZero.cells (.slice none 0 0))[j]? from fun j => (HKr.out.cell (p := ⟨w.heap.size, j, none⟩) (by simp; omega) (by simp; omega)).trans (HRV.out j))
      have HGr := Lib.hid (show ∀ j, wr.frozen? ⟨w.heap.size, j, none⟩ = false from fun j => (HKr.out.frozen (p := ⟨w.heap.size, j, none⟩) (by simp; omega) (by simp; omega)).trans (HGV.out j))
      have HI2 := Lib.hid hI2; clear hI2
      have HU2 := Lib.hid hU2; clear hU2
      go_wp2_with (first | refine wpList_load_pd rfl 32 (.tmp 3) rfl P rfl (rd l 8 0) (.slice none 0 0) _ HU2.out rfl HI2.out HCr.out ?_ | (refine wpList_store_pd rfl 32 (.tmp 2) (.tmp 56) rfl w.heap.size Pdu.pdZero (rd l 8 0) (.slice none 0 0) (.slice none 0 0) rfl rfl HRr.out HGr.out rfl HI2.out ?_; intro W3 hc3 hf3 hk3 hs3; have HC3 := Lib.hid hc3; have HK3 := Lib.hid hk3; clear hc3 hf3 hk3))
      (try simp only [Exit.inBlock, Exit.then])
      refine bodyPost_ret (results_cell (cs := ((rd l 8 0).cells (.slice none 0 0)).toList) rfl _ rfl (pd_range (rd l 8 0) _ _ _ HC3.out) HU2.out rfl (by rw [HI2.out]; rfl)) rfl ?_
      exact ⟨rfl, HBr.out.trans (HK3.out.below (B := w.heap.size) (by omega) (fun z h1 h2 => by omega))⟩
    case pos =>
      have HFCr : ∀ j, wr.cell? ⟨FB, j, none⟩ = (fieldCells P)[j]? := fun j => (HKr.out.cell (p := ⟨FB, j, none⟩) (by simp; omega) (by simp; omega)).trans (HFC.out j)
      obtain ⟨q0, q1, q2⟩ := fieldCells_get P i hi
      have q0 := (HFCr (i * 3)).trans q0
      have q1 := (HFCr (i * 3 + 1)).trans q1
      have q2 := (HFCr (i * 3 + 2)).trans q2
      clear HFCr
      obtain ⟨s1, s2, s3, s4, s5, s6⟩ := Pdu.field_small i hi
      have hfold : (fieldList.getD i (0, 0, 0)).1 = Pdu.fat i ∧ (fieldList.getD i (0, 0, 0)).2.1 = Pdu.fsz i ∧ (fieldList.getD i (0, 0, 0)).2.2 = Pdu.foff i := ⟨rfl, rfl, rfl⟩
      rw [hfold.1] at q0
      rw [hfold.2.1] at q1
      rw [hfold.2.2] at q2
      clear hfold
      have HNx := Lib.hid (show rd l i (Pdu.numAt l (Pdu.fat i) (Pdu.fsz i)) = rd l (i + 1) 0 from rd_next l i hi)
      have HSet := Lib.hid (show ∀ acc acc' j, ((rd l i acc').cells (.slice none 0 0))[j]? = if j = Pdu.foff i then some (.int .i64 (acc' : Int)) else ((rd l i acc).cells (.slice none 0 0))[j]? from fun acc acc' j => rd_cells_set l i acc acc' hi _ j)
      generalize Pdu.fat i = fa at *
      generalize Pdu.fsz i = sz at *
      generalize Pdu.foff i = fo at *
      obtain ⟨X, hX⟩ : ∃ X, X = wr.alloc (.cells #[.int .i64 (fa : Int), .int .i64 (sz : Int), .pointer (some ⟨P, fo, none⟩)] 67) := ⟨_, rfl⟩
      have hXs : X.heap.size = wr.heap.size + 1 := by rw [hX]; simp
      have hXB : Below wr.heap.size wr X := by rw [hX]; exact allocBelow wr _
      have y0 : X.cell? ⟨wr.heap.size, 0, none⟩ = some (.int .i64 (fa : Int)) := by rw [hX]; exact World.cell?_alloc_new _ _ _ _
      have y1 : X.cell? ⟨wr.heap.size, 1, none⟩ = some (.int .i64 (sz : Int)) := by rw [hX]; exact World.cell?_alloc_new _ _ _ _
      have y2 : X.cell? ⟨wr.heap.size, 2, none⟩ = some (.pointer (some ⟨P, fo, none⟩)) := by rw [hX]; exact World.cell?_alloc_new _ _ _ _
      obtain ⟨gk1, hgk1⟩ : ∃ x, x = gk := ⟨_, rfl⟩
      have ht8 : decide ((i : Int) < 8) = true := by rw [decide_eq_true_eq]; omega
      go_upto_region 5 with fail
      rw [← hX]
      have HXB := Lib.hid hXB
      clear hX hXB q0 q1 q2
      have HY2 : ∀ V, Keeps (· = P) X V → Hid (V.cell? ⟨wr.heap.size, 2, none⟩ = some (.pointer (some ⟨P, fo, none⟩))) := fun V hV => (hV.cell (p := ⟨wr.heap.size, 2, none⟩) (by simp; omega) (by simp; omega)).trans y2
      have HBX := Lib.hid (HBr.out.trans (HXB.out.mono HBr.out.size))
      have HKX := Lib.hid (HKr.out.trans (Keeps.of_below (F := (· = P)) HXB.out) (fun _ _ h => h))
      have HCX := Lib.hid (show ∀ j, X.cell? ⟨P, j, none⟩ = ((rd l i 0).cells (.slice none 0 0))[j]? from fun j => (HXB.out.cell (p := ⟨P, j, none⟩) (by simp; omega)).trans (HCr.out j))
      have HFX := Lib.hid (show ∀ j, X.frozen? ⟨P, j, none⟩ = false from fun j => (HXB.out.frozen (p := ⟨P, j, none⟩) (by simp; omega)).trans (HFr.out j))
      have hcf : ¬ c = fa := by omega
      have hsX : w.heap.size ≤ X.heap.size := HBX.out.size
      clear HCr HFr HKr HBr HXB
      go_wp2_with fail
      rw [show fa + sz - fa = sz by omega]
      go_loopg [39] sz (fun g s39 wx => ∃ k : Nat, s39 = .int .i64 k ∧ k + g = sz ∧ (∀ j, wx.cell? ⟨P, j, none⟩ = ((rd l i (Pdu.numAt l fa k)).cells (.slice none 0 0))[j]?) ∧ (∀ j, wx.frozen? ⟨P, j, none⟩ = false) ∧ Keeps (· = P) X wx)
      case atStart => exact ⟨0, rfl, by omega, by rw [show Pdu.numAt l fa 0 = 0 by simp [Pdu.numAt, Pdu.num]]; exact HCX.out, HFX.out, Keeps.refl _ _⟩
      case round =>
        clear HCX HFX
        obtain ⟨k, rfl, hkg, hcr, hfr, hkr⟩ := hrel
        have HCr := Lib.hid hcr; clear hcr
        have HFr := Lib.hid hfr; clear hfr
        have HKr := Lib.hid hkr; clear hkr
        by_cases hk : k < sz
        case neg =>
          obtain rfl : k = sz := by omega
          go_wp2_with fail
          go_roundg (gk1 - 1)
          case measure => omega
          case rel =>
            refine ⟨i + 1, by go_num, by omega, ?_, HFr.out, HKX.out.trans HKr.out (fun _ _ h => h)⟩
            rw [← HNx.out]; exact HCr.out
        case pos =>
          have z2 := (HY2 _ HKr.out).out
          have HBk := HBX.out.trans (HKr.out.below (B := w.heap.size) hsX (fun z h1 h2 => by omega))
          have xb := HCell.out _ HBk (fa + k) (by omega)
          rw [← Nat.add_assoc] at xb
          have hby : l.getD (fa + k) 0 < 256 := getD_byte HByt.out _
          have HN := Lib.hid (numAt_succ l fa k (by omega))
          have hac := numAt_small l fa k HByt.out (by omega)
          have xp := (HCr.out fo).trans ((HSet.out 0 _ fo).trans (if_pos rfl))
          have xf := HFr.out fo
          clear HBk
          generalize Pdu.numAt l fa k = acc at *
          generalize l.getD (fa + k) 0 = byte at *
          have hor := or_byte acc byte hac hby
          obtain ⟨nv, hnv⟩ : ∃ nv, nv = 256 * acc + byte := ⟨_, rfl⟩
          rw [← hnv] at hor HN
          clear hnv
          go_upto_region 8 with fail
          go_still_tail 11, (by kernel_rfl)
          change wpList _ _ _ _ _ (World.drew _)
          go_wp2_with fail
          go_roundg (gk - 1)
          case measure => omega
          case rel =>
            refine ⟨k + 1, by go_num, by omega, fun j => ?_, fun j => ?_, HKr.out.drew.setCell (fun _ => rfl) _⟩
            · rw [HN.out, HSet.out acc nv j]
              by_cases hj : j = fo
              · subst hj
                rw [if_pos rfl]
                exact World.cell?_setCell_same _ _ _ xp
              · rw [if_neg hj]
                exact (World.cell?_setCell_other _ _ _ _ (fun e => hj (by injection e with e1 e2; exact e2.symm))).trans (HCr.out j)
            · show (wr.setCell ⟨P, fo, none⟩ (.int .i64 (nv : Int))).frozen? ⟨P, j, none⟩ = false
              rw [World.frozen?_setCell]; exact HFr.out j
end Go.Proofs.Ytodmpchnjakchaa
