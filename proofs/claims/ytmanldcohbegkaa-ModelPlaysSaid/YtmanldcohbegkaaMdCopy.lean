/-
  The model: bytes copied; rows made; a drawn region in a round of a range over a function.
-/
import Derived.Test.YtmanldcohbegkaaMdSmall
import Derived.Laws.CopyRow
import Derived.Deep.RegionLaw
import Derived.Deep.RegionHeld
import Derived.RangeFuncNested
import Derived.RangeFuncBound
import Derived.RangeFuncCalls
import Derived.RangeFuncLeaves
import Derived.Shelf.Abstract
import Derived.Shelf.RegionOpen
import Derived.Deep.CutRange
import Derived.Deep.CutBlock
import Derived.Deep.LoopGhost
import Derived.Deep.DeepCutAuto
import Derived.Deep.RegionHeld3
namespace Go.Proofs.Ytmanldcohbegkaa
open Go.RowKit

theorem Owns.len {base : Nat} {w : World} {a : Option Addr} {n c : Nat} {xs : List Nat} (h : Owns base w (.slice a n c) xs) : n = xs.length := (h.bytes.length).symm
theorem Owns.cellNo {base : Nat} {w : World} {g n cap : Nat} {l : List Nat} (h : Owns base w (.slice (some ⟨g, 0, none⟩) n cap) l) (j : Nat) (hj : j < l.length) : w.cell? ⟨g, j, none⟩ = some (.int .u8 (l.getD j 0 : Nat)) := by
  have hn := h.bytes.length
  subst hn
  exact (World.ownsRow.cellAt h j (by omega)).trans (byteCells_get l j hj)
theorem Owns.freeNo {base : Nat} {w : World} {g n cap : Nat} {l : List Nat} (h : Owns base w (.slice (some ⟨g, 0, none⟩) n cap) l) (j : Nat) : w.frozen? ⟨g, j, none⟩ = false := by
  have hn := h.bytes.length
  subst hn
  exact World.ownsRow.frozenAt h j
theorem Owns.set {base : Nat} {w : World} {g n cap : Nat} {l : List Nat} (h : Owns base w (.slice (some ⟨g, 0, none⟩) n cap) l) (j y : Nat) : Owns base (w.setCell ⟨g, j, none⟩ (.int .u8 (y : Int))) (.slice (some ⟨g, 0, none⟩) n cap) (l.set j y) := by
  have hn := h.bytes.length
  subst hn
  have := World.ownsRow.stored h j (.int .u8 (y : Int))
  unfold Owns
  rw [List.length_set]
  have e : byteCells (l.set j y) = (byteCells l).set j (.int .u8 (y : Int)) := by simp [byteCells]
  rw [e]
  exact this.1
theorem BytesAt.part {w : World} {b off n c : Nat} {l : List Nat} (h : BytesAt w (.slice (some ⟨b, off, none⟩) n c) l) (lo hi c' : Nat) (h1 : lo ≤ hi) (h2 : hi ≤ n) : BytesAt w (.slice (some ⟨b, off + lo, none⟩) (hi - lo) c') ((l.take hi).drop lo) := by
  have hn := h.length
  rcases h with ⟨rfl, ao, cap, e, h0⟩ | ⟨bd, of', cap, e, hc⟩
  · injection e with e1 e2 e3
    have : hi - lo = 0 := by omega
    rw [this]
    exact .inl ⟨by simp, _, _, rfl, fun h => by cases h⟩
  · injection e with e1 e2 e3
    injection e1 with e1
    injection e1 with e1 e4
    subst e1 e4
    refine .inr ⟨b, off + lo, c', by simp; omega, fun i hi' => ?_⟩
    simp at hi'
    rw [Nat.add_assoc]
    refine (hc (lo + i) (by omega)).trans ?_
    simp [List.getD, List.getElem?_take]
    congr 2
    rw [if_pos (by omega)]

theorem BytesAt.behind {w : World} {b n m c : Nat} {x y : List Nat} (h : BytesAt w (.slice (some ⟨b, 0, none⟩) (n + m) c) (x ++ y)) (hx : x.length = n) (hy : y.length = m) (c' : Nat) : BytesAt w (.slice (some ⟨b, n, none⟩) m c') y := by
  have h2 := h.part n (n + m) c' (by omega) (Nat.le_refl _)
  rw [Nat.zero_add, Nat.add_sub_cancel_left] at h2
  rw [List.take_of_length_le (by rw [List.length_append]; omega), ← hx, List.drop_left] at h2
  rw [← hx]; exact h2

theorem step_copy_owns {ops : Array Oper} {o : Oper} {a : Act} {w : World} {K : Act → World → Prop} {Q : Exit → Act → World → Prop} {E : Prop} (hgd : o.guard = none) (d s : Operand)
    (ho : o.op = .call { callee := .builtin .copy, args := #[d, s], argTypes := #[28, 28] }) (base g off n cap dLen dCap : Nat) (xs l : List Nat) (ad : Addr) (sCap : Nat)
    (hd : a.eval d = .slice (some ⟨g, off, none⟩) dLen dCap) (hs : a.eval s = .slice (some ad) l.length sCap) (hown : Owns base w (.slice (some ⟨g, 0, none⟩) n cap) xs)
    (hl : ∀ j, j < l.length → w.cell? (ad.add j) = some (.int .u8 (l.getD j 0 : Nat))) (hfit : off + l.length ≤ n) (hmin : l.length ≤ dLen)
    (h : ∀ w', Owns base w' (.slice (some ⟨g, 0, none⟩) n cap) (xs.take off ++ l ++ xs.drop (off + l.length)) → Keeps (· = g) w w' → K (a.put o.dst (goInt l.length)) w') :
    if Region.wanted o (yielded ops a.tmps) = true then Oper.wp Try.prog o a w K Q else E := by
  have hw : Region.wanted o (yielded ops a.tmps) = true := by simp [Region.wanted, hgd]
  rw [if_pos hw]
  obtain ⟨i0, hi, hz0, hz1, hz2⟩ := info_parts Try.info_byte
  have hn := hown.len
  subst hn
  have h1 : ∀ u ∈ byteCells l, u.oneCell' = true := fun u hu => by
    obtain ⟨n, _, rfl⟩ := List.mem_map.1 hu
    rfl
  rcases hown.2 with ⟨h0, _⟩ | ⟨g', cap', cur, hv, hbg, hg, hnc, hcm, hcs, htake⟩
  · cases h0
  · cases hv
    have hbl : (byteCells l).length = l.length := byteCells_length l
    have hcur : cur.size = cap := by omega
    have hrun := run_copy_row (P := Try.prog) w 28 28 o.type 5 g off dLen dCap ad l.length sCap cur 5 (byteCells l) Try.underlying28 (by rw [hi]; simpa using hz1) hg (by rw [hbl]; exact (Nat.min_eq_left hmin).symm)
      (fun j v hj => by
        have hjl : j < l.length := by
          rcases Nat.lt_or_ge j l.length with h' | h'
          · exact h'
          · rw [List.getElem?_eq_none (by rw [hbl]; exact h')] at hj; cases hj
        exact (hl j hjl).trans ((byteCells_get l j hjl).symm.trans hj)) (by rw [hbl]; omega) h1
    unfold Oper.wp
    simp [execOp, ho, resolve, invoke, builtin, hd, hs, hrun, Result.andThen]
    rw [hbl]
    refine h _ ?_ ⟨rfl, rfl, rfl, by simp [World.setRow], fun k _ hk => setRow_other w g k _ (fun e => hk e)⟩
    have hxl : xs.length = (xs.take off ++ l ++ xs.drop (off + l.length)).length := by simp; omega
    unfold Owns
    rw [← hxl]
    have e1 : cur.toList.take xs.length = byteCells xs := by simpa using htake
    refine ⟨by rw [byteCells_length]; omega, .inr ⟨g, cap, _, rfl, hbg, setRow_heap w g cur _ 5 _ hg, hnc, hcm, ?_, ?_⟩⟩
    · simp only [List.size_toArray, List.length_append, List.length_take, List.length_drop, Array.length_toList, hbl]
      omega
    · have e2 : cur.toList = byteCells xs ++ cur.toList.drop xs.length := by rw [← e1, List.take_append_drop]
      have e3 : (byteCells xs).length = xs.length := byteCells_length xs
      have e4 : byteCells (xs.take off ++ l ++ xs.drop (off + l.length)) = (byteCells xs).take off ++ (byteCells l ++ (byteCells xs).drop (off + l.length)) := by simp [byteCells]
      rw [Nat.mul_one, e4]
      generalize cur.toList.drop xs.length = rest at e2
      rw [e2]
      have e5 : (byteCells xs ++ rest).take off = (byteCells xs).take off := List.take_append_of_le_length (by omega)
      have e6 : (byteCells xs ++ rest).drop (off + l.length) = (byteCells xs).drop (off + l.length) ++ rest := List.drop_append_of_le_length (by omega)
      rw [e5, e6, ← List.append_assoc, ← List.append_assoc, List.take_append_of_le_length (by simp; omega), List.take_of_length_le (by simp; omega), List.append_assoc]
theorem results_cell {P : Program} {w : World} {fn : Func} {a T b : Nat} {cs : List Value} {d : TypeDesc} (h : fn.results = #[.cell a T]) (tmps : Array Value) (ht : tmps.getD a undef = .pointer (some ⟨b, 0, none⟩)) (hc : w.rangeAt b 0 cs)
    (hu : P.underlying T = some d) (hd : d.isRow = true) (hi : (P.info? T).map (·.size) = some cs.length) : (results fn tmps).run P w = .ok (.agg cs.toArray) w := by
  simp only [results, h, List.mapM_cons, List.mapM_nil, ht, asAddr, Sem.run_bind, Sem.run_pure, Result.andThen_ok, run_loadVar_mid w b 0 T cs d hc hu hd hi, Array.mapM_eq_mapM_toList, Sem.run_map]
  rfl

theorem ops_at0 {x0 : Oper} {l : List Oper} : (x0 :: l).toArray[0]? = some x0 := rfl
theorem ops_at1 {x0 x1 : Oper} {l : List Oper} : (x0 :: x1 :: l).toArray[1]? = some x1 := rfl
theorem ops_at2 {x0 x1 x2 : Oper} {l : List Oper} : (x0 :: x1 :: x2 :: l).toArray[2]? = some x2 := rfl
theorem ops_at3 {x0 x1 x2 x3 : Oper} {l : List Oper} : (x0 :: x1 :: x2 :: x3 :: l).toArray[3]? = some x3 := rfl
theorem ops_at4 {x0 x1 x2 x3 x4 : Oper} {l : List Oper} : (x0 :: x1 :: x2 :: x3 :: x4 :: l).toArray[4]? = some x4 := rfl
theorem ops_at5 {x0 x1 x2 x3 x4 x5 : Oper} {l : List Oper} : (x0 :: x1 :: x2 :: x3 :: x4 :: x5 :: l).toArray[5]? = some x5 := rfl
theorem ops_at6 {x0 x1 x2 x3 x4 x5 x6 : Oper} {l : List Oper} : (x0 :: x1 :: x2 :: x3 :: x4 :: x5 :: x6 :: l).toArray[6]? = some x6 := rfl
theorem ops_at7 {x0 x1 x2 x3 x4 x5 x6 x7 : Oper} {l : List Oper} : (x0 :: x1 :: x2 :: x3 :: x4 :: x5 :: x6 :: x7 :: l).toArray[7]? = some x7 := rfl
theorem ops_at8 {x0 x1 x2 x3 x4 x5 x6 x7 x8 : Oper} {l : List Oper} : (x0 :: x1 :: x2 :: x3 :: x4 :: x5 :: x6 :: x7 :: x8 :: l).toArray[8]? = some x8 := rfl
theorem ops_at9 {x0 x1 x2 x3 x4 x5 x6 x7 x8 x9 : Oper} {l : List Oper} : (x0 :: x1 :: x2 :: x3 :: x4 :: x5 :: x6 :: x7 :: x8 :: x9 :: l).toArray[9]? = some x9 := rfl
theorem ops_at10 {x0 x1 x2 x3 x4 x5 x6 x7 x8 x9 x10 : Oper} {l : List Oper} : (x0 :: x1 :: x2 :: x3 :: x4 :: x5 :: x6 :: x7 :: x8 :: x9 :: x10 :: l).toArray[10]? = some x10 := rfl
theorem ops_at11 {x0 x1 x2 x3 x4 x5 x6 x7 x8 x9 x10 x11 : Oper} {l : List Oper} : (x0 :: x1 :: x2 :: x3 :: x4 :: x5 :: x6 :: x7 :: x8 :: x9 :: x10 :: x11 :: l).toArray[11]? = some x11 := rfl
theorem ops_at12 {x0 x1 x2 x3 x4 x5 x6 x7 x8 x9 x10 x11 x12 : Oper} {l : List Oper} : (x0 :: x1 :: x2 :: x3 :: x4 :: x5 :: x6 :: x7 :: x8 :: x9 :: x10 :: x11 :: x12 :: l).toArray[12]? = some x12 := rfl
theorem ops_at13 {x0 x1 x2 x3 x4 x5 x6 x7 x8 x9 x10 x11 x12 x13 : Oper} {l : List Oper} : (x0 :: x1 :: x2 :: x3 :: x4 :: x5 :: x6 :: x7 :: x8 :: x9 :: x10 :: x11 :: x12 :: x13 :: l).toArray[13]? = some x13 := rfl
theorem ops_at14 {x0 x1 x2 x3 x4 x5 x6 x7 x8 x9 x10 x11 x12 x13 x14 : Oper} {l : List Oper} : (x0 :: x1 :: x2 :: x3 :: x4 :: x5 :: x6 :: x7 :: x8 :: x9 :: x10 :: x11 :: x12 :: x13 :: x14 :: l).toArray[14]? = some x14 := rfl
theorem ops_at15 {x0 x1 x2 x3 x4 x5 x6 x7 x8 x9 x10 x11 x12 x13 x14 x15 : Oper} {l : List Oper} : (x0 :: x1 :: x2 :: x3 :: x4 :: x5 :: x6 :: x7 :: x8 :: x9 :: x10 :: x11 :: x12 :: x13 :: x14 :: x15 :: l).toArray[15]? = some x15 := rfl
theorem ops_at16 {x0 x1 x2 x3 x4 x5 x6 x7 x8 x9 x10 x11 x12 x13 x14 x15 x16 : Oper} {l : List Oper} : (x0 :: x1 :: x2 :: x3 :: x4 :: x5 :: x6 :: x7 :: x8 :: x9 :: x10 :: x11 :: x12 :: x13 :: x14 :: x15 :: x16 :: l).toArray[16]? = some x16 := rfl
theorem ops_at17 {x0 x1 x2 x3 x4 x5 x6 x7 x8 x9 x10 x11 x12 x13 x14 x15 x16 x17 : Oper} {l : List Oper} : (x0 :: x1 :: x2 :: x3 :: x4 :: x5 :: x6 :: x7 :: x8 :: x9 :: x10 :: x11 :: x12 :: x13 :: x14 :: x15 :: x16 :: x17 :: l).toArray[17]? = some x17 := rfl
theorem ops_at18 {x0 x1 x2 x3 x4 x5 x6 x7 x8 x9 x10 x11 x12 x13 x14 x15 x16 x17 x18 : Oper} {l : List Oper} : (x0 :: x1 :: x2 :: x3 :: x4 :: x5 :: x6 :: x7 :: x8 :: x9 :: x10 :: x11 :: x12 :: x13 :: x14 :: x15 :: x16 :: x17 :: x18 :: l).toArray[18]? = some x18 := rfl
theorem ops_at19 {x0 x1 x2 x3 x4 x5 x6 x7 x8 x9 x10 x11 x12 x13 x14 x15 x16 x17 x18 x19 : Oper} {l : List Oper} : (x0 :: x1 :: x2 :: x3 :: x4 :: x5 :: x6 :: x7 :: x8 :: x9 :: x10 :: x11 :: x12 :: x13 :: x14 :: x15 :: x16 :: x17 :: x18 :: x19 :: l).toArray[19]? = some x19 := rfl
theorem ops_at20 {x0 x1 x2 x3 x4 x5 x6 x7 x8 x9 x10 x11 x12 x13 x14 x15 x16 x17 x18 x19 x20 : Oper} {l : List Oper} : (x0 :: x1 :: x2 :: x3 :: x4 :: x5 :: x6 :: x7 :: x8 :: x9 :: x10 :: x11 :: x12 :: x13 :: x14 :: x15 :: x16 :: x17 :: x18 :: x19 :: x20 :: l).toArray[20]? = some x20 := rfl
theorem ops_at21 {x0 x1 x2 x3 x4 x5 x6 x7 x8 x9 x10 x11 x12 x13 x14 x15 x16 x17 x18 x19 x20 x21 : Oper} {l : List Oper} : (x0 :: x1 :: x2 :: x3 :: x4 :: x5 :: x6 :: x7 :: x8 :: x9 :: x10 :: x11 :: x12 :: x13 :: x14 :: x15 :: x16 :: x17 :: x18 :: x19 :: x20 :: x21 :: l).toArray[21]? = some x21 := rfl
theorem ops_at22 {x0 x1 x2 x3 x4 x5 x6 x7 x8 x9 x10 x11 x12 x13 x14 x15 x16 x17 x18 x19 x20 x21 x22 : Oper} {l : List Oper} : (x0 :: x1 :: x2 :: x3 :: x4 :: x5 :: x6 :: x7 :: x8 :: x9 :: x10 :: x11 :: x12 :: x13 :: x14 :: x15 :: x16 :: x17 :: x18 :: x19 :: x20 :: x21 :: x22 :: l).toArray[22]? = some x22 := rfl
theorem ops_at23 {x0 x1 x2 x3 x4 x5 x6 x7 x8 x9 x10 x11 x12 x13 x14 x15 x16 x17 x18 x19 x20 x21 x22 x23 : Oper} {l : List Oper} : (x0 :: x1 :: x2 :: x3 :: x4 :: x5 :: x6 :: x7 :: x8 :: x9 :: x10 :: x11 :: x12 :: x13 :: x14 :: x15 :: x16 :: x17 :: x18 :: x19 :: x20 :: x21 :: x22 :: x23 :: l).toArray[23]? = some x23 := rfl

def zeros (n : Nat) : List Nat := List.replicate n 0
theorem make_bytes (n : Nat) (w : World) (hn : n ≤ 1000000) : ∃ w', (Instr.makeSlice 28 (.int .i64 (n : Int)) (.int .i64 (n : Int))).run Try.prog w = .ok (.slice (some ⟨w.heap.size, 0, none⟩) n n) w' ∧ Owns w.heap.size w' (.slice (some ⟨w.heap.size, 0, none⟩) n n) (zeros n) ∧ Below w.heap.size w w' ∧ w'.heap.size = w.heap.size + 1 := by
  obtain ⟨i0, hi, hz0, hz1, hz2⟩ := info_parts Try.info_byte
  have hr := run_make (P := Try.prog) w 28 5 i0 (.int .u8 0) Try.underlying28 hi hz0 .i64 .i64 n n (by omega) (by omega) (by rw [hz2]; omega) (by omega)
  refine ⟨_, hr, ⟨by rw [byteCells_length, Nat.mul_one], .inr ⟨w.heap.size, n, _, ?_, Nat.le_refl _, heap_alloc_new w _, by simp [zeros], by unfold maxLen; omega, by rw [size_madeCells, hz1]; simp, ?_⟩⟩, allocBelow w _, by simp⟩
  · simp [zeros]
  have e : (Value.int IntKind.u8 0).cells = #[Value.int IntKind.u8 0] := rfl
  have e2 := toList_madeCells_one (Value.int IntKind.u8 0) n
  have e3 : n * 1 = n := by omega
  rw [hz1, e]
  simp only [Int.toNat_natCast, e3] at e2 ⊢
  rw [e2, List.take_replicate]
  unfold byteCells zeros
  rw [List.map_replicate, List.length_replicate]
  simp

/-! A drawn region in a round. -/
section
variable {P : Program} {ops : Array Oper} {Q : Exit → Act → World → Prop} {md : Region.Mode} {S : World → Prop}
theorem wpIn_of_wp_oper {l n : Nat} {o : Oper} (hnd : ∀ c, o.op ≠ .defer c) {K : Act → World → Prop} {a : Act} {w : World} (h : o.wp P a w K Q) : o.wpIn (Fence.wide.inRound l) n P a w K Q := by
  refine ⟨fun _ _ => trivial, ?_⟩
  unfold Oper.wp at h
  show o.uponIn (Fence.wide.inRound l) n P a K Q ((o.semAt (some l) a.eval).run P w)
  rw [Oper.semAt_eq _ _ _ hnd]
  generalize (execOp a.eval o).run P w = r at h ⊢
  cases r with
  | ok x w' =>
    cases x <;> simp only [Oper.upon, Oper.uponIn] at h ⊢
    case value => exact h
    case skip => exact h
    case defer => exact h
    case enter f args => exact ⟨fun h => absurd h (by simp [Fence.wide]), (callsIn_wide.2 h).inRound l⟩
    case row row args => exact ⟨fun h => absurd h (by simp [Fence.wide]), fun c cs _ => let ⟨v, w', r, s⟩ := h c cs; ⟨v, w', r, stepsIn_wide.2 s⟩⟩
  | halt x w' => cases x <;> simp only [Oper.upon, Oper.uponIn] at h ⊢ <;> exact h
def noDefer (ops : Array Oper) : Bool := ops.all fun o => match o.op with | .defer _ => false | _ => true
theorem noDefer_spec (h : noDefer ops = true) (i : Nat) (o : Oper) (ho : ops[i]? = some o) : ∀ c, o.op ≠ .defer c := by
  intro c hc
  unfold noDefer at h
  rw [Array.all_eq_true] at h
  obtain ⟨hi, rfl⟩ := Array.getElem?_eq_some_iff.1 ho
  have := h i hi
  rw [hc] at this
  cases this
theorem wpAnyIn_round {l n : Nat} (hnd : noDefer ops = true) (hno : ¬ LetsOut Q) : ∀ (fuel : Nat) (listed : Array Bool) (a : Act) (w : World), wpAny P md ops Q fuel listed a w → wpAnyIn (Fence.wide.inRound l) n P md ops Q fuel listed a w
  | 0, _, _, _, h => h
  | fuel + 1, listed, a, w, h => ⟨h.1, fun i hi => by
    have h2 := h.2 i hi
    unfold wpOp at h2
    unfold wpOpIn
    cases ho : ops[i]? with
    | none => rw [ho] at h2; exact wpAnyIn_round hnd hno fuel _ a w h2
    | some o =>
      rw [ho] at h2
      simp only at h2 ⊢
      by_cases hw : Region.wanted o (yielded ops a.tmps) = true
      · rw [if_pos hw] at h2 ⊢
        rcases h2 with h2 | ⟨_, h2⟩
        · exact Oper.wpIn_mono (fun a w => wpAnyIn_round hnd hno fuel _ a w) (wpIn_of_wp_oper (noDefer_spec hnd i o ho) h2)
        · exact absurd h2 hno
      · rw [if_neg hw] at h2 ⊢
        exact ⟨fun _ _ => trivial, wpAnyIn_round hnd hno fuel _ _ w h2⟩⟩
/-- A drawn region in a round: S held, as in 'wp_region_held_drew'. -/
theorem wpIn_region_held_round {l n : Nat} {id : Nat} {a : Act} {w : World} (hm : P.follows .mixedOrders = true) (hnd : noDefer ops = true) (hno : ¬ LetsOut Q) (hS : S w.drew)
    (h : S w.drew → wpAnyH P .any ops Q S ops.size (Array.replicate ops.size false) a w.drew) : (Code.region id ops true).wpIn (Fence.wide.inRound l) n P Q a w :=
  wpIn_region_any hm (wpAnyIn_round hnd hno _ _ _ _ (wpAny_of_held _ _ _ _ (h hS)))
end
end Go.Proofs.Ytmanldcohbegkaa
