/-
  Bytes appended where there is room: the row stays where it is; noughts behind a row.
-/
import Derived.Test.YtodmpchnjakchaaPduFields
import Derived.Deep.DeepAppendRoom
import Derived.Laws.CopyRow
namespace Go.Proofs.Ytodmpchnjakchaa
open Go.RowKit

theorem fin_bytes {base : Nat} {w : World} {v : Value} {n : Nat} {xs l : List Nat} (hn : n = xs.length) (h : w.ownsRow base 5 1 v (n + l.length) (byteCells xs ++ byteCells l)) : Owns base w v (xs ++ l) := by
  subst hn
  unfold Owns
  rw [List.length_append]
  simpa [byteCells] using h
theorem Owns.len {base : Nat} {w : World} {a : Option Addr} {n c : Nat} {xs : List Nat} (h : Owns base w (.slice a n c) xs) : n = xs.length := (h.bytes.length).symm

theorem Owns.keepsO {F : Nat → Prop} {base : Nat} {w w' : World} {v : Value} {l : List Nat} (h : Owns base w v l) (hk : Keeps F w w') (hF : ∀ k, v.ownBlock = some k → ¬ F k) : Owns base w' v l := hk.owns h hF

theorem wp_append_bytes_room {o : Oper} {a : Act} {K : Act → World → Prop} {Q : Exit → Act → World → Prop} {w : World} (s x : Operand)
    (ho : o.op = .call { callee := .builtin .append, args := #[s, x], argTypes := #[23, 23] }) (base g n cap : Nat) (xs : List Nat) (hs : a.eval s = .slice (some ⟨g, 0, none⟩) n cap) (hown : Owns base w (.slice (some ⟨g, 0, none⟩) n cap) xs)
    (xv : Value) (l : List Nat) (hx : a.eval x = xv) (hxv : BytesAt w xv l) (hroom : n + l.length ≤ cap)
    (h : ∀ w', Owns base w' (.slice (some ⟨g, 0, none⟩) (n + l.length) cap) (xs ++ l) → w.grownBy w' (some g) → K (a.put o.dst (.slice (some ⟨g, 0, none⟩) (n + l.length) cap)) w') : o.wp Try.prog a w K Q := by
  obtain ⟨i0, hi, hz0, hz1, hz2⟩ := info_parts Try.info_byte
  have hn := hown.len
  have hown' : w.ownsRow base 5 1 (.slice (some ⟨g, 0, none⟩) n cap) n (byteCells xs) := by have := hown; unfold Owns at this; rw [← hn] at this; exact this
  have one : ∀ u ∈ byteCells l, u.oneCell' = true := fun u hu => by
    obtain ⟨n, _, rfl⟩ := List.mem_map.1 hu
    rfl
  rcases hxv with ⟨rfl, ao, c, rfl, h0⟩ | ⟨bd, off, c, rfl, hc⟩
  · cases ao with
    | none =>
      obtain rfl := h0 rfl
      have hrun := run_append_owned_none (P := Try.prog) (w := w) base 23 o.type 5 i0 1 Try.underlying23 hi _ _ _ hown
      unfold Oper.wp
      simp [execOp, ho, resolve, invoke, builtin, hs, hx, hrun, Result.andThen]
      exact h w (by rw [List.append_nil]; exact hown) (World.grownBy.refl _ _)
    | some ad =>
      exact wp_append_own_spare w s x 23 ho base 5 i0 1 Try.underlying23 hi hz1 g n cap _ hs hown' ad 0 c [] hx rfl (fun j u hj => by simp at hj) (fun u hu => by simp at hu) (by simpa using hroom)
        fun w' h2 h3 => h w' (fin_bytes (l := []) hn h2) h3
  · exact wp_append_own_spare w s x 23 ho base 5 i0 1 Try.underlying23 hi hz1 g n cap _ hs hown' ⟨bd, off, none⟩ l.length c (byteCells l) hx (by rw [byteCells_length]; omega)
        (fun j u hj => by
          have hjl : j < l.length := by
            rcases Nat.lt_or_ge j l.length with h' | h'
            · exact h'
            · rw [List.getElem?_eq_none (by rw [byteCells_length]; exact h')] at hj; cases hj
          rw [byteCells_get l j hjl] at hj
          injection hj with hj
          rw [← hj, ← hc j hjl]
          rw [← Go.WideShapes.add_plain])
        one hroom fun w' h2 h3 => h w' (fin_bytes hn h2) h3
theorem wpList_append_bytes_room {ops : Array Oper} {rest : List Oper} {o : Oper} {a : Act} {Q : Exit → Act → World → Prop} {w : World} (hgd : o.guard = none) (s x : Operand)
    (ho : o.op = .call { callee := .builtin .append, args := #[s, x], argTypes := #[23, 23] }) (base g n cap : Nat) (xs : List Nat) (hs : a.eval s = .slice (some ⟨g, 0, none⟩) n cap) (hown : Owns base w (.slice (some ⟨g, 0, none⟩) n cap) xs)
    (xv : Value) (l : List Nat) (hx : a.eval x = xv) (hxv : BytesAt w xv l) (hroom : n + l.length ≤ cap)
    (h : ∀ w', Owns base w' (.slice (some ⟨g, 0, none⟩) (n + l.length) cap) (xs ++ l) → w.grownBy w' (some g) → wpList Try.prog ops Q rest (a.put o.dst (.slice (some ⟨g, 0, none⟩) (n + l.length) cap)) w') : wpList Try.prog ops Q (o :: rest) a w :=
  wpList_plain hgd fun _ hK => wp_append_bytes_room s x ho base g n cap xs hs hown xv l hx hxv hroom fun w' h1 h2 => hK _ _ (h w' h1 h2)

theorem zero_list (m : Nat) : (Builtin.zeroCells #[Value.int .u8 0] m).toList = byteCells (Pdu.zeros m) := by
  unfold Builtin.zeroCells byteCells Pdu.zeros
  apply List.ext_getElem?
  intro i
  by_cases hi : i < m
  · simp [hi, Nat.mod_one]
  · simp [hi]
set_option maxHeartbeats 1600000 in
theorem run_append_zeros (base g n cap m : Nat) (xs : List Nat) (ty : TypeId) (w : World) (hown : Owns base w (.slice (some ⟨g, 0, none⟩) n cap) xs) (hroom : n + m ≤ cap) (hm : m ≤ 1000) :
    ∃ w', (Builtin.append_ #[23, 3] ty #[.slice (some ⟨g, 0, none⟩) n cap, .int .i64 (m : Int)]).run Try.prog w = .ok (.slice (some ⟨g, 0, none⟩) (n + m) cap) w' ∧
      Owns base w' (.slice (some ⟨g, 0, none⟩) (n + m) cap) (xs ++ Pdu.zeros m) ∧ w.grownBy w' (some g) := by
  obtain ⟨i0, hi, hz0, hz1, hz2⟩ := info_parts Try.info_byte
  have hn := hown.len
  subst hn
  have hw : IntKind.i64.wrap (m : Int) = m := IntWalk.i64_in _ (by omega)
  have hneg : ¬ ((m : Int) < 0) := by omega
  have h48 : ¬ (281474976710656 < (m : Int) * (i0.bytes : Int)) := by rw [hz2]; omega
  rcases hown.2 with ⟨h0, _⟩ | ⟨g', cap', cur, hv, hbg, hg, hnc, hcm, hcs, htake⟩
  · cases h0
  · cases hv
    have hzl : (Pdu.zeros m).length = m := by simp [Pdu.zeros]
    have hfit : xs.length + 0 + (byteCells (Pdu.zeros m)).length ≤ cur.size := by rw [byteCells_length, hzl, hcs]; omega
    have h1 : ∀ u ∈ byteCells (Pdu.zeros m), u.oneCell' = true := fun u hu => by
      obtain ⟨n, _, rfl⟩ := List.mem_map.1 hu
      rfl
    have hst := run_storeCells_at Try.prog g xs.length 5 (byteCells (Pdu.zeros m)) 0 cur w hg hfit h1
    have hadd : (⟨g, 0, none⟩ : Addr).add xs.length = ⟨g, xs.length, none⟩ := by rw [Addr.add_lit, Nat.zero_add]
    have hrun : (Builtin.append_ #[23, 3] ty #[.slice (some ⟨g, 0, none⟩) xs.length cap, .int .i64 (m : Int)]).run Try.prog w = .ok (.slice (some ⟨g, 0, none⟩) (xs.length + m) cap) (w.setRow g (cur.toList.take (xs.length + 0) ++ byteCells (Pdu.zeros m) ++ cur.toList.drop (xs.length + 0 + (byteCells (Pdu.zeros m)).length)).toArray) := by
      by_cases hm0 : m = 0
      · subst hm0
        have e0 : byteCells (Pdu.zeros 0) = [] := rfl
        have hw0 : IntKind.i64.wrap 0 = 0 := rfl
        rw [e0] at hst ⊢
        simp at hst
        simp [Builtin.append_, run_underlying Try.underlying23, run_underlying Try.underlying3, sizeOf, typeInfo, hi, hz1, asInt, asIntOf, hadd, hw0, hnc, hst]
      · have hz3 : (Value.int IntKind.u8 0).cells = #[Value.int IntKind.u8 0] := rfl
        simp only [Nat.add_zero] at hst
        simp [Builtin.append_, run_underlying Try.underlying23, run_underlying Try.underlying3, sizeOf, typeInfo, zeroValue, hi, hz0, hz1, asInt, asIntOf, hw, hneg, h48, hm0, hroom, hadd, hz3, zero_list, hst]
    refine ⟨_, hrun, fin_bytes (l := Pdu.zeros m) rfl ?_, ⟨rfl, rfl, rfl, by simp, fun k _ hk => setRow_other w g k _ (fun e => hk (by simp [e]))⟩⟩
    rw [hzl]
    refine ⟨by simp [byteCells_length, hzl], .inr ⟨g, cap, _, rfl, hbg, setRow_heap w g cur _ 5 _ hg, hroom, hcm, ?_, ?_⟩⟩
    · simp only [List.size_toArray, List.length_append, List.length_take, List.length_drop, Array.length_toList, byteCells_length, hzl]
      omega
    · have e1 : cur.toList.take xs.length = byteCells xs := by simpa using htake
      rw [Nat.add_zero, e1, Nat.mul_one, List.append_assoc, List.take_append]
      have e2 : (byteCells xs).length = xs.length := byteCells_length xs
      have e3 : (byteCells (Pdu.zeros m)).length = m := by rw [byteCells_length, hzl]
      rw [List.take_of_length_le (by omega), e2, Nat.add_sub_cancel_left, List.take_append_of_le_length (by omega), List.take_of_length_le (by omega)]

/-- Noughts behind a row, where there is room. -/
theorem wp_append_zeros {o : Oper} {a : Act} {K : Act → World → Prop} {Q : Exit → Act → World → Prop} {w : World} (s x : Operand)
    (ho : o.op = .call { callee := .builtin .append, args := #[s, x], argTypes := #[23, 3] }) (base g n cap m : Nat) (xs : List Nat) (hs : a.eval s = .slice (some ⟨g, 0, none⟩) n cap) (hx : a.eval x = .int .i64 (m : Int)) (hown : Owns base w (.slice (some ⟨g, 0, none⟩) n cap) xs)
    (hroom : n + m ≤ cap) (hm : m ≤ 1000)
    (h : ∀ w', Owns base w' (.slice (some ⟨g, 0, none⟩) (n + m) cap) (xs ++ Pdu.zeros m) → w.grownBy w' (some g) → K (a.put o.dst (.slice (some ⟨g, 0, none⟩) (n + m) cap)) w') : o.wp Try.prog a w K Q := by
  obtain ⟨w', hr, h2, h3⟩ := run_append_zeros base g n cap m xs o.type w hown hroom hm
  unfold Oper.wp execOp
  simp only [ho, resolve, invoke, builtin, Sem.run_bind, Sem.run_pure, Result.andThen_ok, List.map_toArray, List.map_cons, List.map_nil, hs, hx, hr]
  exact h w' h2 h3

set_option maxRecDepth 100000 in
set_option maxHeartbeats 3200000 in
/-- summed, where there is room behind. -/
theorem summed_room (tb : Nat) (d : Bool) (base g n cap : Nat) (xs : List Nat) (vf : Value) (lf : List Nat) (w : World) (ht : Table w tb d) (hown : Owns base w (.slice (some ⟨g, 0, none⟩) n cap) xs) (hf : BytesAt w vf lf) (hB : Crc.Bytes lf) (hlf : lf.length ≤ 1000000) (ha : LiesIn vf (· ≠ tb)) (hg : g ≠ tb) (hroom : n + 4 ≤ cap) :
    Calls Try.prog 19 #[.pointer (some ⟨tb, 0, none⟩), .slice (some ⟨g, 0, none⟩) n cap, vf] w fun e w' => e = .returned (.slice (some ⟨g, 0, none⟩) (n + 4) cap) ∧ Owns base w' (.slice (some ⟨g, 0, none⟩) (n + 4) cap) (xs ++ Pdu.sumS lf) ∧ Table w' tb true ∧ Keeps (fun z => z = tb ∨ z = g) w w' := by
  have hgl := (hown.from g rfl).2
  have HS := Lib.hid (sum_any tb d vf lf w ht hf hB (by omega) ha)
  have HO := Lib.hid hown
  clear ht hf ha hown
  go_enter Try.func19, Try.ntmps19
  go_wp2_with fail
  refine HS.out.mono ?_
  rintro e w1 ⟨rfl, ht, ho, _⟩
  have HT := Lib.hid ht
  have HK := Lib.hid ho.keeps
  have HSZ := Lib.hid ho.size
  have HO1 := Lib.hid (show Owns base w1 _ xs from HO.out.keepsO ho.keeps (fun z hz e => hg (by simp [Value.ownBlock] at hz; omega)))
  have hs := Crc.more_lt 0 lf
  have HE := Lib.hid (show Pdu.sumS lf = Pdu.le4 (Crc.more 0 lf) from rfl)
  clear ht ho HS
  generalize Crc.more 0 lf = s at *
  go_wp2_with (at_builtin; refine wpList_append_bytes_room rfl (.tmp 11) (.tmp 23) rfl base g n cap xs rfl (World.ownsRow.alloc HO1.out _) (.slice (some ⟨w1.heap.size, 0, none⟩) 4 4) (Pdu.le4 s) rfl (sum_cells w1 s hs _) hroom ?_; intro w4 hown hgrow)
  go_ret
  have hk : Keeps (fun z => z = tb ∨ z = g) w1 w4 := ((Keeps.refl _ w1).alloc _).trans (Keeps.of_grown (F := fun z => z = tb ∨ z = g) hgrow (fun k hk => .inr (by injection hk with hk; exact hk.symm))) (fun _ _ h => h)
  have hgs := HSZ.out
  refine ⟨rfl, by rw [HE.out]; exact hown, HT.out.keeps (((Keeps.refl (· = g) w1).alloc _).trans (Keeps.of_grown (F := (· = g)) hgrow (fun k hk => by injection hk with hk; exact hk.symm)) (fun _ _ h => h)) (fun h => hg h.symm), (HK.out.mono fun _ _ h => .inl h).trans hk (fun _ _ h => h)⟩
end Go.Proofs.Ytodmpchnjakchaa
