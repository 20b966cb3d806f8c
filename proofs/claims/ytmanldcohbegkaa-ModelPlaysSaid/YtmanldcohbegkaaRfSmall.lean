/-
  The document's model: New, blocks, four, append(l, make([]byte, n)...), trouble.
-/
import Derived.Test.YtmanldcohbegkaaRfRow
import Derived.Lib.AppendZeros
namespace Go.Proofs.Ytmanldcohbegkaa
open Go.RowKit

set_option maxRecDepth 100000 in
set_option maxHeartbeats 1600000 in
theorem rnew_any (w : World) : Calls Try.prog 11 #[] w fun e w' => e = .returned (.pointer (some ⟨w.heap.size, 0, none⟩)) ∧ RefIs w' w.heap.size (.slice none 0 0) [] ⟨[], 1⟩ (fun x => x = w.heap.size) ∧ Below w.heap.size w w' := by
  obtain ⟨w1, hw1⟩ : ∃ w1, w1 = w.alloc (.cells #[.slice none 0 0, .int .i64 1] 56) := ⟨_, rfl⟩
  have hb1 : Below w.heap.size w w1 := by rw [hw1]; exact allocBelow w _
  have hc1 : CellsAt w1 w.heap.size #[.slice none 0 0, .int .i64 1] 56 := by rw [hw1]; exact heap_at rfl
  have HB := Lib.hid hb1; clear hb1
  have HR := Lib.hid (show RefIs w1 w.heap.size (.slice none 0 0) [] ⟨[], 1⟩ (fun x => x = w.heap.size) from ⟨hc1, World.ownsRow_nil _ _ _ _, rfl, fun p hp => by simp at hp, rfl, fun g hg => by simp [Value.ownBlock] at hg, fun x hx => by rw [hx]; exact hc1.lt⟩)
  clear hc1
  go_enter Try.func11, Try.ntmps11
  go_wp2
  rw [← hw1]
  clear hw1
  go_ret
  exact ⟨rfl, HR.out, HB.out⟩

theorem wpList_append_rows {ops : Array Oper} {rest : List Oper} {o : Oper} {a : Act} {Q : Exit → Act → World → Prop} {w : World} (hgd : o.guard = none) (s x : Operand) (t : TypeId)
    (ho : o.op = .call { callee := .builtin .append, args := #[s, x], argTypes := #[t, t] }) (base : Nat) (e : TypeId) (i : TypeInfo) (z : Value) (size bytes : Nat) (ht : Try.prog.underlying t = some (.slice e)) (hi : Try.prog.info? e = some i) (hz : i.zero = some z)
    (hsize : i.size = size) (hby : i.bytes = bytes) (hzs : z.cells.size = size) (hsz : 0 < size) (v : Value) (n : Nat) (xs : List Value) (hs : a.eval s = v) (hown : w.ownsRow base e size v n xs)
    (y : Value) (m b2 : Nat) (ys : List Value) (hx : a.eval x = y) (hy : w.ownsRow b2 e size y m ys) (h1 : ∀ u ∈ ys, u.oneCell' = true) (h63 : n + m ≤ maxLen) (hbytes : (n + m) * bytes ≤ 140737488355328) (hbase : base ≤ w.heap.size)
    (h : ∀ v' w', w'.ownsRow base e size v' (n + m) (xs ++ ys) → w.grownBy w' v.ownBlock → wpList Try.prog ops Q rest (a.put o.dst v') w') : wpList Try.prog ops Q (o :: rest) a w := by
  rcases hy.2 with ⟨rfl, rfl⟩ | ⟨g, cap, cur, rfl, _⟩
  · have h0 : ys = [] := List.eq_nil_of_length_eq_zero (by have := hy.1; simpa using this)
    subst h0
    have hrun := run_append_owned_none (P := Try.prog) (w := w) base t o.type e i size ht hi v _ _ hown
    refine wpList_plain hgd fun K hK => ?_
    unfold Oper.wp
    simp [execOp, ho, resolve, invoke, builtin, hs, hx, hrun, Result.andThen]
    exact hK _ _ (h v w (by rw [List.append_nil, Nat.add_zero]; exact hown) (World.grownBy.refl _ _))
  · exact wpList_append_own w hgd s x t ho base e i z size bytes ht hi hz hsize hby hzs hsz v n xs hs hown ⟨g, 0, none⟩ m cap ys hx (by have := hy.1; simpa using this) (World.ownsRow.cells hy rfl) h1 h63 hbytes hbase fun v' w' h2 h3 _ => h v' w' h2 h3

set_option maxRecDepth 100000 in
set_option maxHeartbeats 1600000 in
theorem rblocks_any (W : Nat → Prop) (bv : Value) (es : REs) (w : World) (h : RRow W w bv es) (hlen : es.length ≤ 1048576) :
    Calls Try.prog 49 #[bv] w fun e w' => ∃ a c, e = .returned (.slice a es.length c) ∧ w'.ownsRow w.heap.size 87 2 (.slice a es.length c) es.length (bcells es.vals) ∧ Below w.heap.size w w' := by
  obtain ⟨i0, hi0, hz0, hz1, hz2⟩ := info_parts Try.info_rblk
  have HI := Lib.hid hi0; clear hi0
  have HZ0 := Lib.hid hz0; clear hz0
  have HZ1 := Lib.hid hz1; clear hz1
  have HZ2 := Lib.hid hz2; clear hz2
  have H := Lib.hid h; clear h
  obtain ⟨n, hn⟩ : ∃ n, n = es.length := ⟨_, rfl⟩
  rw [← hn] at hlen ⊢
  have HN := Lib.hid hn; clear hn
  have hrow := H.out.row
  rw [← HN.out] at hrow
  have HR := Lib.hid hrow; clear hrow
  go_enter Try.func49, Try.ntmps49
  go_wp2_with (at_builtin; refine wpList_append_rows rfl (.tmp 4) (.tmp 5) 67 rfl w.heap.size 87 i0 _ 2 32 Try.underlying67 HI.out HZ0.out HZ1.out HZ2.out rfl (by decide) (.slice none 0 0) 0 [] rfl (World.ownsRow_nil _ _ _ _) bv n 0 (bcells es.vals) rfl HR.out H.out.one (by unfold maxLen; omega) (by omega) (Nat.le_refl _) ?_; intro v1 w1 hown1 hgrow1; rw [Nat.zero_add, List.nil_append] at hown1; obtain ⟨a1, c1, rfl, _⟩ := ownsForm hown1; have HO1 := Lib.hid hown1; clear hown1; have HG1 := Lib.hid hgrow1; clear hgrow1)
  go_ret
  exact ⟨a1, c1, rfl, HO1.out, (Below.refl _ _).grown HG1.out (Nat.le_refl _) (fun k hk => by simp [Value.ownBlock] at hk)⟩

def fourPre (n : Nat) (i : Int) (d : List Nat) : Prop := (i = 3 ∧ d = []) ∨ (i = 2 ∧ d = [n / 16777216]) ∨ (i = 1 ∧ d = [n / 16777216, n / 65536 % 256]) ∨ (i = 0 ∧ d = [n / 16777216, n / 65536 % 256, n / 256 % 256]) ∨ (i = -1 ∧ d = fourB n)
theorem one_byte (w : World) (x : Nat) : BytesAt (w.alloc (.cells #[.int .u8 (x : Int)] 5)) (.slice (some ⟨w.heap.size, 0, none⟩) 1 1) [x] := by
  refine .inr ⟨w.heap.size, 0, 1, rfl, fun i hi => ?_⟩
  obtain rfl : i = 0 := by simpa using hi
  rw [Nat.zero_add, (CellsAt.new w _ _).cell 0]
  simp

theorem one_byte' (w : World) {x : Nat} {z : Int} (h : z = (x : Int)) : BytesAt (w.alloc (.cells #[.int .u8 z] 5)) (.slice (some ⟨w.heap.size, 0, none⟩) 1 1) [x] := by rw [h]; exact one_byte w x

set_option maxRecDepth 100000 in
set_option maxHeartbeats 3200000 in
theorem rfour_any (base : Nat) (v : Value) (xs : List Nat) (n : Nat) (w : World) (hown : Owns base w v xs) (hb : base ≤ w.heap.size) (hlen : xs.length ≤ 1000) (hn : n < 2147483648) :
    Calls Try.prog 50 #[v, .int .i64 (n : Int)] w fun r w' => ∃ v', r = .returned v' ∧ Owns base w' v' (xs ++ fourB n) ∧ Below base w w' := by
  obtain ⟨a0, c0, rfl, _⟩ := hown.bytes.form
  obtain ⟨ln, hln⟩ : ∃ ln, ln = xs.length := ⟨_, rfl⟩
  rw [← hln] at hown hlen ⊢
  have hl1 : ln ≤ xs.length := by omega
  have hl2 : xs.length ≤ ln := by omega
  clear hln
  have HO := Lib.hid hown; clear hown
  go_enter Try.func50, Try.ntmps50
  go_wp2_with fail
  go_loopw [0, 5] (fun o i wr => ∃ ra rn rc d q, o = .slice ra rn rc ∧ i = .int .i64 q ∧ fourPre n q d ∧ Owns base wr (.slice ra rn rc) (xs ++ d) ∧ base ≤ wr.heap.size ∧ Below base w wr) (fun _ i _ => (intOf i + 1).toNat)
  case atStart => exact ⟨a0, ln, c0, [], 3, rfl, rfl, .inl ⟨rfl, rfl⟩, by rw [List.append_nil]; exact HO.out, hb, Below.refl _ _⟩
  case round =>
    obtain ⟨ra, rn, rc, d, q, rfl, rfl, hq, ho, hbs, hk⟩ := hrel
    have HOr := Lib.hid ho; clear ho
    have HK := Lib.hid hk; clear hk
    rcases hq with ⟨rfl, rfl⟩ | ⟨rfl, rfl⟩ | ⟨rfl, rfl⟩ | ⟨rfl, rfl⟩ | ⟨rfl, rfl⟩
    · have hx1 := Lib.hid (one_byte' wr (x := n / 16777216) (z := (n : Int) / 16777216) (by omega))
      go_wp2_with (at_builtin; refine wpList_append_bytes rfl (.tmp 10) (.tmp 16) rfl base (.slice ra rn rc) _ rfl (World.ownsRow.alloc HOr.out _) (.slice (some ⟨wr.heap.size, 0, none⟩) 1 1) [n / 16777216] rfl hx1.out (by simp; omega) (by simp; omega) ?_; intro v2 w2 hown2 hgrow2; obtain ⟨a2, c2, rfl, _⟩ := hown2.bytes.form)
      go_roundw
      case rel => exact ⟨a2, _, c2, [n / 16777216], 2, rfl, rfl, .inr (.inl ⟨rfl, rfl⟩), by rw [List.append_assoc] at hown2; simpa [fourB] using hown2, by have := hgrow2.size; simp at this; omega, (HK.out.alloc hbs _).grown hgrow2 (by simp; omega) (fun k hk => (World.ownsRow.lt HOr.out k hk).1)⟩
      case measure => simp [intOf]
    · have hx1 := Lib.hid (one_byte' wr (x := n / 65536 % 256) (z := (n : Int) / 65536 % 256) (by omega))
      go_wp2_with (at_builtin; refine wpList_append_bytes rfl (.tmp 10) (.tmp 16) rfl base (.slice ra rn rc) _ rfl (World.ownsRow.alloc HOr.out _) (.slice (some ⟨wr.heap.size, 0, none⟩) 1 1) [n / 65536 % 256] rfl hx1.out (by simp; omega) (by simp; omega) ?_; intro v2 w2 hown2 hgrow2; obtain ⟨a2, c2, rfl, _⟩ := hown2.bytes.form)
      go_roundw
      case rel => exact ⟨a2, _, c2, [n / 16777216, n / 65536 % 256], 1, rfl, rfl, .inr (.inr (.inl ⟨rfl, rfl⟩)), by rw [List.append_assoc] at hown2; simpa [fourB] using hown2, by have := hgrow2.size; simp at this; omega, (HK.out.alloc hbs _).grown hgrow2 (by simp; omega) (fun k hk => (World.ownsRow.lt HOr.out k hk).1)⟩
      case measure => simp [intOf]
    · have hx1 := Lib.hid (one_byte' wr (x := n / 256 % 256) (z := (n : Int) / 256 % 256) (by omega))
      go_wp2_with (at_builtin; refine wpList_append_bytes rfl (.tmp 10) (.tmp 16) rfl base (.slice ra rn rc) _ rfl (World.ownsRow.alloc HOr.out _) (.slice (some ⟨wr.heap.size, 0, none⟩) 1 1) [n / 256 % 256] rfl hx1.out (by simp; omega) (by simp; omega) ?_; intro v2 w2 hown2 hgrow2; obtain ⟨a2, c2, rfl, _⟩ := hown2.bytes.form)
      go_roundw
      case rel => exact ⟨a2, _, c2, [n / 16777216, n / 65536 % 256, n / 256 % 256], 0, rfl, rfl, .inr (.inr (.inr (.inl ⟨rfl, rfl⟩))), by rw [List.append_assoc] at hown2; simpa [fourB] using hown2, by have := hgrow2.size; simp at this; omega, (HK.out.alloc hbs _).grown hgrow2 (by simp; omega) (fun k hk => (World.ownsRow.lt HOr.out k hk).1)⟩
      case measure => simp [intOf]
    · have hx1 := Lib.hid (one_byte' wr (x := n % 256) (z := (n : Int) % 256) (by omega))
      go_wp2_with (at_builtin; refine wpList_append_bytes rfl (.tmp 10) (.tmp 16) rfl base (.slice ra rn rc) _ rfl (World.ownsRow.alloc HOr.out _) (.slice (some ⟨wr.heap.size, 0, none⟩) 1 1) [n % 256] rfl hx1.out (by simp; omega) (by simp; omega) ?_; intro v2 w2 hown2 hgrow2; obtain ⟨a2, c2, rfl, _⟩ := hown2.bytes.form)
      go_roundw
      case rel => exact ⟨a2, _, c2, fourB n, -1, rfl, rfl, .inr (.inr (.inr (.inr ⟨rfl, rfl⟩))), by rw [List.append_assoc] at hown2; simpa [fourB] using hown2, by have := hgrow2.size; simp at this; omega, (HK.out.alloc hbs _).grown hgrow2 (by simp; omega) (fun k hk => (World.ownsRow.lt HOr.out k hk).1)⟩
      case measure => simp [intOf]
    · go_wp2
      go_ret
      exact ⟨_, rfl, HOr.out, HK.out⟩

theorem zc_list (m : Nat) : (Builtin.zeroCells (Value.int .u8 0).cells m).toList = byteCells (zeros m) := by
  have e : ∀ i : Nat, ([Value.int .u8 0][i % 1]?).getD default = Value.int .u8 0 := fun i => by rw [Nat.mod_one]; rfl
  have c : ∀ l : List Nat, l.map (fun _ => Value.int .u8 0) = List.replicate l.length (Value.int .u8 0) := fun l => by
    induction l with
    | nil => rfl
    | cons x l ih => simp [ih, List.replicate_succ]
  unfold Builtin.zeroCells byteCells zeros
  simp [Value.cells, e, c]
theorem zc_size (m : Nat) : (Builtin.zeroCells (Value.int .u8 0).cells m).size = m := by
  simp [Builtin.zeroCells, Value.cells]
set_option maxRecDepth 100000 in
theorem run_append_zeros (base : Nat) (ty : TypeId) (v : Value) (xs : List Nat) (m : Nat) (w : World) (hown : Owns base w v xs) (h0 : 0 < m) (hlen : xs.length + m ≤ 1000000) (hbase : base ≤ w.heap.size) :
    ∃ v' w', (Builtin.append_ #[28, 3] ty #[v, .int .i64 (m : Int)]).run Try.prog w = .ok v' w' ∧ Owns base w' v' (xs ++ zeros m) ∧ w.grownBy w' v.ownBlock := by
  obtain ⟨i, hi, hz, hsz, hby⟩ := info_parts Try.info_byte
  obtain ⟨n, hn⟩ : ∃ n, n = xs.length := ⟨_, rfl⟩
  have hlx : (byteCells xs).length = n := by rw [byteCells_length, hn]
  have hlz : (byteCells (zeros m)).length = m := by rw [byteCells_length]; simp [zeros]
  have fin : ∀ v' w', w'.ownsRow base 5 1 v' (n + m) (byteCells xs ++ byteCells (zeros m)) → Owns base w' v' (xs ++ zeros m) := fun v' w' hh => by
    unfold Owns
    rw [List.length_append, ← hn, show (zeros m).length = m by simp [zeros]]
    simpa [byteCells] using hh
  have hown' := hown
  unfold Owns at hown'
  rw [← hn] at hown' hlen
  have hm0 : m ≠ 0 := by omega
  have hw : IntKind.i64.wrap (m : Int) = m := by rw [IntKind.wrap_i64]; omega
  have h48i : ¬ (281474976710656 < (m : Int)) := by omega
  have hneg : ¬ ((m : Int) < 0) := by omega
  have hlen2 : (byteCells xs ++ byteCells (zeros m)).length = (n + m) * 1 := by rw [List.length_append, hlx, hlz]; omega
  have hone : ∀ u ∈ byteCells (zeros m), u.oneCell' = true := fun u hu => by
    obtain ⟨x, _, rfl⟩ := List.mem_map.1 hu
    rfl
  rcases hown'.2 with ⟨rfl, rfl⟩ | ⟨g, cap, cur, rfl, hbg, hg, hnc, hcm, hcs, htake⟩
  · have hx : byteCells xs = [] := List.eq_nil_of_length_eq_zero hlx
    have hr := Lib.run_append_nil_zeros (P := Try.prog) w 28 3 ty 5 i (.int .u8 0) .i64 .i64 Try.underlying28 Try.underlying3 hi hz m h0 (by omega) (by omega) (by rw [hby]; omega)
    refine ⟨_, _, hr, fin _ _ ⟨hlen2, .inr ⟨w.heap.size, grownCap w m 0 5, _, by rw [Nat.zero_add], hbase, World.alloc_heap_new w.drew _, ?_, ?_, ?_, ?_⟩⟩, ⟨rfl, rfl, rfl, by simp, fun k hk _ => Below.heap_alloc w.drew _ k hk⟩⟩
    · have := grownCap_ge w m 0 5; omega
    · exact grownCap_le_maxLen w m 0 5 (by unfold maxLen; omega)
    · have := grownCap_ge w m 0 5
      rw [Array.size_append, zc_size, zc_size]; omega
    · rw [Array.toList_append, zc_list, hx, List.nil_append, Nat.zero_add, Nat.mul_one]
      exact List.take_left' hlz
  · by_cases hroom : n + m ≤ cap
    · have hst := run_storeCells_at Try.prog g n 5 (byteCells (zeros m)) 0 cur w hg (by rw [hlz, hcs]; omega) hone
      simp only [Nat.add_zero] at hst
      have hz2 := zc_list m
      simp only [Value.cells] at hz2
      refine ⟨.slice (some ⟨g, 0, none⟩) (n + m) cap, w.setRow g (cur.toList.take n ++ byteCells (zeros m) ++ cur.toList.drop (n + (byteCells (zeros m)).length)).toArray, ?_, fin _ _ ⟨hlen2, .inr ⟨g, cap, _, rfl, hbg, setRow_heap w g cur _ 5 _ hg, hroom, hcm, ?_, ?_⟩⟩, ⟨rfl, rfl, rfl, by simp, fun k _ hk => setRow_other w g k _ (fun e => hk (by simp [Value.ownBlock, e]))⟩⟩
      · simp [Builtin.append_, run_underlying Try.underlying28, run_underlying Try.underlying3, sizeOf, typeInfo, zeroValue, hi, hz, hsz, hby, asInt, asIntOf, hw, hneg, h48i, hroom, hm0, hz2, Addr.add_lit, hst, Value.cells]
      · simp only [List.size_toArray, List.length_append, List.length_take, List.length_drop, Array.length_toList]
        omega
      · rw [Nat.mul_one] at htake
        rw [List.append_assoc, htake, Nat.mul_one, ← List.append_assoc]
        exact List.take_left' (by rw [List.length_append, hlx, hlz])
    · have holds : ∀ j u, (byteCells xs)[j]? = some u → w.cell? ((⟨g, 0, none⟩ : Addr).add j) = some u := hown'.cells (g := g) rfl
      have hfo := run_firstCells_some (P := Try.prog) w.drew 1 n ⟨g, 0, none⟩ n cap (byteCells xs) (by rw [hlx]; omega) (by simpa using holds)
      have h63' : ¬ (9223372036854775807 < ((n : Int) + (m : Int))) := by omega
      have hcap : cap < n + m := by omega
      have h48' : ¬ (281474976710656 < Builtin.nextslicecap (n + m) cap) := by
        have := growslice_fits (need := n + m) (old := cap) (bytes := 1) (by omega) (by omega)
        omega
      have hge := grownCap_ge w (n + m) cap 5
      refine ⟨.slice (some ⟨w.heap.size, 0, none⟩) (n + m) (grownCap w (n + m) cap 5), w.drew.alloc (.cells ((byteCells xs).toArray ++ (byteCells (zeros m)).toArray ++ Builtin.zeroCells (Value.int .u8 0).cells (grownCap w (n + m) cap 5 - (n + m))) 5), ?_, fin _ _ ⟨hlen2, .inr ⟨w.heap.size, _, _, rfl, hbase, World.alloc_heap_new w.drew _, hge, grownCap_le_maxLen w (n + m) cap 5 (by unfold maxLen; omega), ?_, ?_⟩⟩, ⟨rfl, rfl, rfl, by simp, fun k hk _ => Below.heap_alloc w.drew _ k hk⟩⟩
      · have hz2 := zc_list m
        have hza : Builtin.zeroCells (Value.int .u8 0).cells m = (byteCells (zeros m)).toArray := by rw [← hz2]
        simp only [Value.cells] at hza ⊢
        simp [Builtin.append_, run_underlying Try.underlying28, run_underlying Try.underlying3, sizeOf, typeInfo, zeroValue, hi, hz, hsz, hby, asInt, asIntOf, hw, hneg, h48i, hroom, hm0, h63', h48', Question.forced, hfo, newRow, grownCap, Value.cells, hza]
        congr 2
        apply Array.ext'
        simp [List.append_assoc]
      · simp only [Array.size_append, List.size_toArray, zc_size, hlx, hlz]
        omega
      · simp only [Array.toList_append]
        rw [Nat.mul_one]
        exact List.take_left' (by simp [hlx, hlz])

def rtrB (op s : Int) : Bool := if s = 32 then (op == 6 || op == 7) else (decide (2 ≤ op) && decide (op ≤ 9) && badList.contains s)
theorem rtr_same {op s : Int} (h1 : 1 ≤ op) (h2 : op ≤ 10) : rtrB op s = troubleB op s := by
  unfold rtrB troubleB
  by_cases h : s = 32
  · rw [if_pos h, if_pos h]
  · rw [if_neg h, if_neg h]
    congr 1
    by_cases a : op = 1
    · subst a; rfl
    by_cases b : op = 10
    · subst b; rfl
    have e1 : (op != 1) = true := by simp [a]
    have e2 : (op != 10) = true := by simp [b]
    have e3 : decide (2 ≤ op) = true := decide_eq_true (by omega)
    have e4 : decide (op ≤ 9) = true := decide_eq_true (by omega)
    rw [e1, e2, e3, e4]

set_option maxRecDepth 100000 in
set_option maxHeartbeats 3200000 in
theorem rtrouble_any (op s : Int) (w : World) : Calls Try.prog 26 #[.int .i64 op, .int .i64 s] w fun e w' => e = .returned (.bool (rtrB op s)) ∧ w = w' := by
  obtain ⟨b1, hb1⟩ : ∃ b1, b1 = decide (2 ≤ op) := ⟨_, rfl⟩
  obtain ⟨b2, hb2⟩ : ∃ b2, b2 = decide (op ≤ 9) := ⟨_, rfl⟩
  obtain ⟨b3, hb3⟩ : ∃ b3, b3 = (op == 6) := ⟨_, rfl⟩
  obtain ⟨b4, hb4⟩ : ∃ b4, b4 = (op == 7) := ⟨_, rfl⟩
  obtain ⟨o, ho⟩ : ∃ o, o = rtrB op s := ⟨_, rfl⟩
  have ho2 := ho
  unfold rtrB at ho2
  rw [← hb1, ← hb2, ← hb3, ← hb4] at ho2
  rw [← ho]
  clear ho
  have k1 : decide (2 ≤ op) = b1 := hb1.symm
  have k2 : decide (op ≤ 9) = b2 := hb2.symm
  have k3 : (op == 6) = b3 := hb3.symm
  have k4 : (op == 7) = b4 := hb4.symm
  clear hb1 hb2 hb3 hb4
  by_cases hin : s = 10 ∨ s = 11 ∨ s = 12 ∨ s = 13 ∨ s = 14 ∨ s = 15 ∨ s = 16 ∨ s = 17 ∨ s = 18 ∨ s = 20 ∨ s = 21 ∨ s = 22
  · have hbb : o = (b1 && b2) := by
      rw [ho2]
      rcases hin with rfl | rfl | rfl | rfl | rfl | rfl | rfl | rfl | rfl | rfl | rfl | rfl <;> simp [badList]
    have HO := Lib.hid hbb; clear hbb ho2 k3 k4
    rcases hin with rfl | rfl | rfl | rfl | rfl | rfl | rfl | rfl | rfl | rfl | rfl | rfl
    all_goals
      cases b1 with
      | false =>
        go_enter Try.func26, Try.ntmps26
        go_wp2
        go_ret
        exact ⟨by rw [HO.out]; rfl, rfl⟩
      | true =>
        go_enter Try.func26, Try.ntmps26
        go_wp2
        go_ret
        exact ⟨by rw [HO.out]; first | rfl | (simp only [Bool.true_and]; rfl), rfl⟩
  · by_cases h32 : s = 32
    · have hbb : o = (b3 || b4) := by rw [ho2, if_pos h32]
      have HO := Lib.hid hbb; clear hbb ho2 k1 k2 hin
      subst h32
      cases b3 with
      | false =>
        go_enter Try.func26, Try.ntmps26
        go_wp2
        go_ret
        exact ⟨by rw [HO.out]; first | rfl | (simp only [Bool.false_or]; rfl), rfl⟩
      | true =>
        go_enter Try.func26, Try.ntmps26
        go_wp2
        go_ret
        exact ⟨by rw [HO.out]; rfl, rfl⟩
    · have hbb : o = false := by
        rw [ho2, if_neg h32]
        have : badList.contains s = false := by
          simp only [badList, List.contains_cons, List.contains_nil, Bool.or_false, Bool.or_eq_false_iff, beq_eq_false_iff_ne]
          omega
        rw [this, Bool.and_false]
      have HO := Lib.hid hbb; clear hbb ho2 k1 k2 k3 k4
      have e1 : (s == 10) = false := by simp; omega
      have e2 : (s == 11) = false := by simp; omega
      have e3 : (s == 12) = false := by simp; omega
      have e4 : (s == 13) = false := by simp; omega
      have e5 : (s == 14) = false := by simp; omega
      have e6 : (s == 15) = false := by simp; omega
      have e7 : (s == 16) = false := by simp; omega
      have e8 : (s == 17) = false := by simp; omega
      have e9 : (s == 18) = false := by simp; omega
      have e10 : (s == 20) = false := by simp; omega
      have e11 : (s == 21) = false := by simp; omega
      have e12 : (s == 22) = false := by simp; omega
      have e13 : (s == 32) = false := by simp; omega
      clear hin h32
      go_enter Try.func26, Try.ntmps26
      go_wp2
      go_ret
      exact ⟨by rw [HO.out]; rfl, rfl⟩
end Go.Proofs.Ytmanldcohbegkaa
