/-
  Slices of bytes that the call itself made: what is appended.
-/
import Derived.Test.YthocdlihhfhbeaaArgs
import Derived.Laws.AppendOwnNone
namespace Go.Proofs.Ythocdlihhfhbeaa
open Go.RowKit

theorem Try.info_byte : (Try.prog.info? 5).map (fun i => (i.zero, i.size, i.bytes)) = some (some (.int .u8 0), 1, 1) := by kernel_rfl
def cellsOf (l : List Nat) : List Value := l.map fun (n : Nat) => Value.int .u8 (n : Int)
/-- A slice of bytes that the call itself made, from block base on, holds just these. -/
def Owns (base : Nat) (w : World) (v : Value) (l : List Nat) : Prop := w.ownsRow base 5 1 v l.length (cellsOf l)
theorem Owns.nil (base : Nat) (w : World) : Owns base w (.slice none 0 0) [] := World.ownsRow_nil _ _ _ _
theorem cellsOf_length (l : List Nat) : (cellsOf l).length = l.length := by simp [cellsOf]
theorem cellsOf_get (l : List Nat) (i : Nat) (h : i < l.length) : (cellsOf l)[i]? = some (.int .u8 (l.getD i 0 : Nat)) := by
  simp [cellsOf, h]
theorem Owns.bytes {base : Nat} {w : World} {v : Value} {l : List Nat} (h : Owns base w v l) : BytesAt w v l := by
  obtain ⟨_, h2⟩ := h
  rcases h2 with ⟨rfl, h0⟩ | ⟨g, cap, cur, rfl, hb, hg, hn, hcap, hsz, htake⟩
  · exact .inl ⟨List.eq_nil_of_length_eq_zero h0, none, 0, rfl, fun _ => rfl⟩
  · refine .inr ⟨g, 0, cap, rfl, fun i hi => ?_⟩
    have e : w.cell? ⟨g, 0 + i, none⟩ = cur[i]? := by
      rw [Nat.zero_add]
      simp [World.cell?, hg]
    rw [e]
    have e2 : cur[i]? = (cur.toList.take (l.length * 1))[i]? := by
      rw [List.getElem?_take]
      simp [hi]
    rw [e2, htake, cellsOf_get l i hi]
theorem Owns.from {base : Nat} {w : World} {v : Value} {l : List Nat} (h : Owns base w v l) : ∀ k, v.ownBlock = some k → base ≤ k ∧ k < w.heap.size := World.ownsRow.lt h
theorem Owns.avoids {base b : Nat} {w : World} {v : Value} {l : List Nat} (h : Owns base w v l) (hb : b < base) : Avoids v b := by
  intro a n c e _
  subst e
  have := h.from a.block rfl
  omega

theorem wp_append_bytes {o : Oper} {a : Act} {K : Act → World → Prop} {Q : Exit → Act → World → Prop} {w : World} (s x : Operand)
    (ho : o.op = .call { callee := .builtin .append, args := #[s, x], argTypes := #[22, 22] }) (base : Nat) (v : Value) (xs : List Nat) (hs : a.eval s = v) (hown : Owns base w v xs)
    (xv : Value) (l : List Nat) (hx : a.eval x = xv) (hxv : BytesAt w xv l) (hlen : xs.length + l.length ≤ 140737488355328) (hbase : base ≤ w.heap.size)
    (h : ∀ v' w', Owns base w' v' (xs ++ l) → w.grownBy w' v.ownBlock → K (a.put o.dst v') w') : o.wp Try.prog a w K Q := by
  obtain ⟨i0, hi, hz0, hz1, hz2⟩ := info_parts Try.info_byte
  have fin : ∀ v' w', w'.ownsRow base 5 1 v' (xs.length + l.length) (cellsOf xs ++ cellsOf l) → Owns base w' v' (xs ++ l) := fun v' w' hh => by
    unfold Owns
    rw [List.length_append]
    simpa [cellsOf] using hh
  have one : ∀ u ∈ cellsOf l, u.oneCell' = true := fun u hu => by
    obtain ⟨n, _, rfl⟩ := List.mem_map.1 hu
    rfl
  rcases hxv with ⟨rfl, ao, cap, rfl, h0⟩ | ⟨bd, off, cap, rfl, hc⟩
  · cases ao with
    | none =>
      obtain rfl := h0 rfl
      have hrun := run_append_owned_none (P := Try.prog) (w := w) base 22 o.type 5 i0 1 Try.underlying22 hi v _ _ hown
      unfold Oper.wp
      simp [execOp, ho, resolve, invoke, builtin, hs, hx, hrun, Result.andThen]
      exact h v w (by rw [List.append_nil]; exact hown) (World.grownBy.refl _ _)
    | some ad =>
      exact wp_append_own w s x 22 ho base 5 i0 (.int .u8 0) 1 1 Try.underlying22 hi hz0 hz1 hz2 rfl (by decide) v _ _ hs hown ad 0 cap [] hx rfl (fun j u hj => by simp at hj) (fun u hu => by simp at hu)
        (by unfold maxLen; omega) (by simp at hlen ⊢; omega) hbase fun v' w' h2 h3 _ => h v' w' (fin v' w' h2) h3
  · exact wp_append_own w s x 22 ho base 5 i0 (.int .u8 0) 1 1 Try.underlying22 hi hz0 hz1 hz2 rfl (by decide) v _ _ hs hown ⟨bd, off, none⟩ l.length cap (cellsOf l) hx (by rw [cellsOf_length]; omega)
        (fun j u hj => by
          have hjl : j < l.length := by
            rcases Nat.lt_or_ge j l.length with h' | h'
            · exact h'
            · rw [List.getElem?_eq_none (by rw [cellsOf_length]; exact h')] at hj; cases hj
          rw [cellsOf_get l j hjl] at hj
          injection hj with hj
          rw [← hj, ← hc j hjl]
          rw [← Go.WideShapes.add_plain])
        one (by unfold maxLen; omega) (by omega) hbase fun v' w' h2 h3 _ => h v' w' (fin v' w' h2) h3
theorem wpList_append_bytes {ops : Array Oper} {rest : List Oper} {o : Oper} {a : Act} {Q : Exit → Act → World → Prop} {w : World} (hgd : o.guard = none) (s x : Operand)
    (ho : o.op = .call { callee := .builtin .append, args := #[s, x], argTypes := #[22, 22] }) (base : Nat) (v : Value) (xs : List Nat) (hs : a.eval s = v) (hown : Owns base w v xs)
    (xv : Value) (l : List Nat) (hx : a.eval x = xv) (hxv : BytesAt w xv l) (hlen : xs.length + l.length ≤ 140737488355328) (hbase : base ≤ w.heap.size)
    (h : ∀ v' w', Owns base w' v' (xs ++ l) → w.grownBy w' v.ownBlock → wpList Try.prog ops Q rest (a.put o.dst v') w') : wpList Try.prog ops Q (o :: rest) a w :=
  wpList_plain hgd fun _ hK => wp_append_bytes s x ho base v xs hs hown xv l hx hxv hlen hbase fun v' w' h1 h2 => hK _ _ (h v' w' h1 h2)
/-- The same as one step of a region that draws. -/
theorem step_append_bytes {ops : Array Oper} {o : Oper} {a : Act} {K : Act → World → Prop} {Q : Exit → Act → World → Prop} {E : Prop} {w : World} (hgd : o.guard = none) (s x : Operand)
    (ho : o.op = .call { callee := .builtin .append, args := #[s, x], argTypes := #[22, 22] }) (base : Nat) (v : Value) (xs : List Nat) (hs : a.eval s = v) (hown : Owns base w v xs)
    (xv : Value) (l : List Nat) (hx : a.eval x = xv) (hxv : BytesAt w xv l) (hlen : xs.length + l.length ≤ 140737488355328) (hbase : base ≤ w.heap.size)
    (h : ∀ v' w', Owns base w' v' (xs ++ l) → w.grownBy w' v.ownBlock → K (a.put o.dst v') w') : if Region.wanted o (yielded ops a.tmps) = true then Oper.wp Try.prog o a w K Q else E := by
  rw [if_pos (by simp [Region.wanted, hgd])]
  exact wp_append_bytes s x ho base v xs hs hown xv l hx hxv hlen hbase h
end Go.Proofs.Ythocdlihhfhbeaa
