/-
  places: which tasks are ready.
-/
import Derived.Test.YtknjiphgpoifcaaTkQueue
namespace Go.Proofs.Ytknjiphgpoifcaa
open Go.RowKit

theorem OwnsInts.nil (base : Nat) (w : World) : OwnsInts base w (.slice none 0 0) [] := World.ownsRow_nil _ _ _ _
theorem wpList_append_int {ops : Array Oper} {rest : List Oper} {o : Oper} {a : Act} {Q : Exit → Act → World → Prop} {w : World} (hgd : o.guard = none) (s x : Operand)
    (ho : o.op = .call { callee := .builtin .append, args := #[s, x], argTypes := #[23, 23] }) (base : Nat) (v : Value) (xs : List Nat) (hs : a.eval s = v) (hown : OwnsInts base w v xs)
    (ad : Addr) (k : Nat) (hx : a.eval x = .slice (some ad) 1 1) (hc : w.cell? (ad.add 0) = some (.int .i64 (k : Int))) (hlen : xs.length ≤ 1000000) (hbase : base ≤ w.heap.size)
    (h : ∀ v' w', OwnsInts base w' v' (xs ++ [k]) → w.grownBy w' v.ownBlock → wpList Try.prog ops Q rest (a.put o.dst v') w') : wpList Try.prog ops Q (o :: rest) a w := by
  obtain ⟨i0, hi, hz0, hz1, hz2⟩ := info_parts Try.info_int
  refine wpList_append_own w hgd s x 23 ho base 3 i0 (.int .i64 0) 1 8 Try.underlying23 hi hz0 hz1 hz2 rfl (by decide) v _ _ hs hown ad 1 1 [.int .i64 (k : Int)] hx rfl (fun j u hj => ?_) (fun u hu => ?_) (by unfold maxLen; omega) (by omega) hbase fun v' w' h2 h3 _ => h v' w' ?_ h3
  · match j, hj with
    | 0, hj => simp at hj; rw [← hj]; exact hc
  · simp at hu; subst hu; rfl
  · unfold OwnsInts
    rw [List.length_append]
    simpa [intCells] using h2

set_option maxRecDepth 100000 in
set_option maxHeartbeats 3200000 in
theorem places_any (q room : Nat) (l : List El) (F : Nat → Prop) (w : World) (h : QAt 58 w q room l F) :
    Calls Try.prog 25 #[.pointer (some ⟨q, 0, none⟩)] w fun e w' => ∃ v, e = .returned v ∧ OwnsInts w.heap.size w' v (placesOf l) ∧ Below w.heap.size w w' := by
  obtain ⟨av, hav, hrow⟩ := h.row
  have hle := h.le
  obtain ⟨ao, cap, rfl⟩ := hrow.shape
  have HR := Lib.hid hrow; clear hrow
  have HQ := Lib.hid h; clear h
  have hqlt := block_lt hav
  simp only at hqlt
  have hnot : ∀ (x : Bool) (w : World), (Op.unary .not (.bool x)).run Try.prog w = .ok (.bool (!x)) w := fun _ _ => rfl
  go_enter Try.func25, Try.ntmps25
  go_wp2
  go_loopw [3, 11] (fun v i wr => ∃ k : Nat, k ≤ l.length ∧ i = .int .i64 k ∧ OwnsInts w.heap.size wr v (plain l k) ∧ Below w.heap.size w wr ∧ ∀ j, j < k → ∀ e, l[j]? = some e → e.t.ord = false) (fun _ i _ => l.length - (intOf i).toNat)
  case atStart => exact ⟨0, by omega, rfl, OwnsInts.nil _ _, Below.refl _ _, fun j hj => by omega⟩
  case round =>
    obtain ⟨k, hk, rfl, hown, hbel, hord⟩ := hrel
    have HO := Lib.hid hown; clear hown
    have HB := Lib.hid hbel; clear hbel
    have HN := Lib.hid hord; clear hord
    by_cases hlt : k < l.length
    · obtain ⟨g, cap', e1⟩ := HR.out.form (by omega)
      injection e1 with e1 _ e2
      subst e1; subst e2
      obtain ⟨e, he⟩ : ∃ e, l[k]? = some e := ⟨l[k], by simp [hlt]⟩
      have hgl := HQ.out.lt g (HR.out.blk g rfl).1
      have hc : ∀ j, j < 12 → wr.cell? ⟨g, k * 12 + j, none⟩ = e.cells[j]? := fun j hj => (HB.out.cell (p := ⟨g, k * 12 + j, none⟩) hgl).trans (HR.out.cell k e he j hj)
      have q0 := hc 0 (by omega)
      have q1 := hc 1 (by omega)
      have q2 := hc 2 (by omega)
      have q3 := hc 3 (by omega)
      have q4 := hc 4 (by omega)
      have q5 := hc 5 (by omega)
      have q6 := hc 6 (by omega)
      have q7 := hc 7 (by omega)
      have q8 := hc 8 (by omega)
      have q9 := hc 9 (by omega)
      have q10 := hc 10 (by omega)
      have q11 := hc 11 (by omega)
      clear hc
      have hdv := (HR.out.data e (List.mem_of_getElem? he)).1
      have HD := Lib.hid (drop_at l k e he)
      have HP := Lib.hid (places_plain l k (by omega) HN.out)
      have HS := Lib.hid (plain_succ l k e he)
      have HL := Lib.hid (plain_length l k)
      have HE := Lib.hid he; clear he
      obtain ⟨⟨cmd, tag, op, ord, fua, vol, lba, cnt, siz, quo, data⟩, dv, u⟩ := e
      simp only [El.cells, List.getElem?_cons_zero, List.getElem?_cons_succ, Nat.add_zero] at q0 q1 q2 q3 q4 q5 q6 q7 q8 q9 q10 q11
      dsimp only at hdv HS
      obtain ⟨da, dc, rfl, _⟩ := hdv.form
      clear hdv
      have hsz := HB.out.size
      cases ord with
      | true =>
        by_cases hk0 : k = 0
        · subst hk0
          cases u with
          | true =>
            go_wp2
            go_ret
            refine ⟨_, rfl, ?_, (HB.out.alloc (by omega) _)⟩
            rw [HP.out, HD.out]
            simp only [readyFrom, if_true, List.append_nil, Bool.true_eq_false, and_false, if_false]
            exact World.ownsRow.alloc HO.out _
          | false =>
            go_wp2_with (at_builtin; refine wpList_append_int rfl (.tmp 26) (.tmp 28) rfl w.heap.size u3 (plain l 0) rfl (World.ownsRow.alloc (World.ownsRow.alloc HO.out _) _) ⟨wr.heap.size + 1, 0, none⟩ 0 rfl (by simp [Addr.add]) (by have := HL.out; omega) (by simp; omega) ?_; intro v' w' hown hgrow)
            go_ret
            refine ⟨_, rfl, ?_, (((HB.out.alloc (by omega) _).alloc (by simp; omega) _)).grown hgrow (by simp; omega) (fun k hk => (World.ownsRow.lt HO.out k hk).1)⟩
            rw [HP.out, HD.out]
            simp only [readyFrom, if_true, and_self]
            exact hown
        · have hkb : ((k : Int) == 0) = false := by rw [beq_eq_false_iff_ne]; omega
          go_wp2
          go_ret
          refine ⟨_, rfl, ?_, (HB.out.alloc (by omega) _)⟩
          rw [HP.out, HD.out]
          simp only [readyFrom, if_true, hk0, false_and, if_false, List.append_nil]
          exact World.ownsRow.alloc HO.out _
      | false =>
        have HN' : ∀ j, j < k + 1 → ∀ e, l[j]? = some e → e.t.ord = false := fun j hj e he => by
          by_cases hjk : j = k
          · subst hjk
            rw [HE.out] at he
            injection he with he
            rw [← he]
          · exact HN.out j (by omega) e he
        have HN1 := Lib.hid HN'; clear HN'
        cases u with
        | true =>
          go_wp2
          go_roundw
          case rel =>
            refine ⟨k + 1, by omega, by go_num, ?_, (HB.out.alloc (by omega) _), HN1.out⟩
            rw [HS.out]
            simp only [Bool.true_eq_false, if_false, List.append_nil]
            exact World.ownsRow.alloc HO.out _
          case measure => simp [intOf]; omega
        | false =>
          go_wp2_with (at_builtin; refine wpList_append_int rfl (.tmp 33) (.tmp 35) rfl w.heap.size u3 (plain l k) rfl (World.ownsRow.alloc (World.ownsRow.alloc HO.out _) _) ⟨wr.heap.size + 1, 0, none⟩ k rfl (by simp [Addr.add]) (by have := HL.out; omega) (by simp; omega) ?_; intro v' w' hown hgrow)
          go_roundw
          case rel =>
            refine ⟨k + 1, by omega, by go_num, ?_, (((HB.out.alloc (by omega) _).alloc (by simp; omega) _)).grown hgrow (by simp; omega) (fun k hk => (World.ownsRow.lt HO.out k hk).1), HN1.out⟩
            rw [HS.out]
            simp only [if_true]
            exact hown
          case measure => simp [intOf]; omega
    · obtain rfl : k = l.length := by omega
      have HP := Lib.hid (places_plain l l.length (by omega) HN.out)
      go_wp2
      go_ret
      refine ⟨_, rfl, ?_, HB.out⟩
      rw [HP.out, List.drop_length]
      simp only [readyFrom, List.append_nil]
      exact HO.out
end Go.Proofs.Ytknjiphgpoifcaa
