/-
  Memory: what is kept, slices of bytes, how they read.
-/
import Derived.Test.YtmanldcohbegkaaRows
import Derived.WalkKit
import Derived.WalkSpells
import Derived.WalkLawsBesides
import Derived.Lib.Hide
import Derived.OpenShut
import Derived.Deep.AppendLies
import Derived.Laws.AppendOwnNone
namespace Go.Proofs.Ytmanldcohbegkaa
open Go.RowKit

/-- Of the blocks that were there, none has turned but those of F. -/
structure Keeps (F : Nat → Prop) (w w' : World) : Prop where
  os : w'.os = w.os
  tape : w'.tape = w.tape
  output : w'.output = w.output
  size : w.heap.size ≤ w'.heap.size
  block : ∀ k, k < w.heap.size → ¬ F k → w'.heap[k]? = w.heap[k]?
theorem Keeps.refl (F : Nat → Prop) (w : World) : Keeps F w w := ⟨rfl, rfl, rfl, Nat.le_refl _, fun _ _ _ => rfl⟩
theorem Keeps.trans {F G : Nat → Prop} {a b c : World} (h : Keeps F a b) (k : Keeps G b c) (hG : ∀ x, x < a.heap.size → G x → F x) : Keeps F a c :=
  ⟨k.os.trans h.os, k.tape.trans h.tape, k.output.trans h.output, Nat.le_trans h.size k.size, fun i hi hn => (k.block i (Nat.lt_of_lt_of_le hi h.size) (fun g => hn (hG i hi g))).trans (h.block i hi hn)⟩
theorem Keeps.mono {F G : Nat → Prop} {a b : World} (h : Keeps F a b) (hF : ∀ x, x < a.heap.size → F x → G x) : Keeps G a b := ⟨h.os, h.tape, h.output, h.size, fun i hi hn => h.block i hi (fun g => hn (hF i hi g))⟩
theorem Keeps.of_below {F : Nat → Prop} {a b : World} (h : Below a.heap.size a b) : Keeps F a b := ⟨h.os, h.tape, h.output, h.size, fun i hi _ => h.block i hi⟩
theorem Keeps.below {F : Nat → Prop} {a b : World} {B : Nat} (h : Keeps F a b) (hB : B ≤ a.heap.size) (hF : ∀ x, x < B → ¬ F x) : Below B a b := ⟨h.os, h.tape, h.output, h.size, fun i hi => h.block i (by omega) (hF i hi)⟩
theorem Keeps.of_grown {F : Nat → Prop} {a b : World} {row : Option Nat} (h : a.grownBy b row) (hF : ∀ k, row = some k → F k) : Keeps F a b :=
  ⟨h.os, h.tape, h.output, h.size, fun i hi hn => h.block i hi (fun e => hn (hF i e.symm))⟩
theorem Keeps.drew {F : Nat → Prop} {a b : World} (h : Keeps F a b) : Keeps F a b.drew := ⟨h.os, h.tape, h.output, h.size, h.block⟩
theorem drewN_eq (w : World) (n : Nat) : w.drewN n = { w with drawn := w.drawn + n } := by first | rfl | simp [World.drewN]
theorem Keeps.drewN {F : Nat → Prop} {a b : World} (h : Keeps F a b) (n : Nat) : Keeps F a (b.drewN n) := by rw [drewN_eq]; exact ⟨h.os, h.tape, h.output, h.size, h.block⟩
theorem Keeps.alloc {F : Nat → Prop} {a b : World} (h : Keeps F a b) (o : Obj) : Keeps F a (b.alloc o) :=
  ⟨h.os, h.tape, h.output, by simp; have := h.size; omega, fun i hi hn => (Below.heap_alloc _ _ _ (by have := h.size; omega)).trans (h.block i hi hn)⟩
theorem Keeps.setCell {F : Nat → Prop} {a b : World} (h : Keeps F a b) {p : Addr} (hp : p.block < a.heap.size → F p.block) (u : Value) : Keeps F a (b.setCell p u) :=
  ⟨h.os, h.tape, h.output, by simp [World.setCell]; exact h.size, fun i hi hn => (Below.heap_setCell _ _ _ _ (fun e => hn (by rw [e]; exact hp (by rw [← e]; exact hi)))).trans (h.block i hi hn)⟩
theorem Keeps.cell {F : Nat → Prop} {a b : World} (h : Keeps F a b) {p : Addr} (hp : p.block < a.heap.size) (hF : ¬ F p.block) : b.cell? p = a.cell? p := World.cell?_of_block (w := a) (h.block p.block hp hF)
theorem Keeps.frozen {F : Nat → Prop} {a b : World} (h : Keeps F a b) {p : Addr} (hp : p.block < a.heap.size) (hF : ¬ F p.block) : b.frozen? p = a.frozen? p := World.frozen?_of_block (w := a) (h.block p.block hp hF)
theorem Keeps.owns {F : Nat → Prop} {a b : World} (h : Keeps F a b) {base : Nat} {e : TypeId} {size n : Nat} {v : Value} {xs : List Value} (ho : a.ownsRow base e size v n xs) (hF : ∀ k, v.ownBlock = some k → ¬ F k) : b.ownsRow base e size v n xs := by
  refine ⟨ho.1, ?_⟩
  rcases ho.2 with hn | ⟨g, cap, cur, rfl, hb, hg, rest⟩
  · exact .inl hn
  · refine .inr ⟨g, cap, cur, rfl, hb, ?_, rest⟩
    rw [h.block g (Array.getElem?_eq_some_iff.1 hg).1 (hF g rfl)]
    exact hg

theorem block_lt {w : World} {a : Addr} {v : Value} (h : w.cell? a = some v) : a.block < w.heap.size := by
  rcases Nat.lt_or_ge a.block w.heap.size with h' | h'
  · exact h'
  · simp [World.cell?, Array.getElem?_eq_none h'] at h

/-- A slice of bytes reads as a list. -/
def BytesAt (w : World) (v : Value) (l : List Nat) : Prop :=
  (l = [] ∧ ∃ ao cap, v = .slice ao 0 cap ∧ (ao = none → cap = 0)) ∨ (∃ b off cap, v = .slice (some ⟨b, off, none⟩) l.length cap ∧ ∀ i, i < l.length → w.cell? ⟨b, off + i, none⟩ = some (.int .u8 (l.getD i 0 : Nat)))
/-- Wherever a slice has elements, it lies in G. -/
def LiesIn (v : Value) (G : Nat → Prop) : Prop := ∀ a n c, v = .slice (some a) n c → 0 < n → G a.block
theorem LiesIn.mono {v : Value} {G G' : Nat → Prop} (h : LiesIn v G) (hG : ∀ k, G k → G' k) : LiesIn v G' := fun a n c e hn => hG _ (h a n c e hn)
theorem BytesAt.lies {w : World} {v : Value} {l : List Nat} (h : BytesAt w v l) : LiesIn v (· < w.heap.size) := by
  rcases h with ⟨rfl, ao, cap, rfl, _⟩ | ⟨bd, off, cap, rfl, hc⟩
  · intro a n c e hn
    injection e with _ e2 _
    omega
  · intro a n c e hn
    injection e with e1 e2 _
    injection e1 with e1
    subst e1; subst e2
    exact block_lt (hc 0 hn)
theorem BytesAt.keeps {F : Nat → Prop} {w w' : World} {v : Value} {l : List Nat} (h : BytesAt w v l) (ho : Keeps F w w') (ha : LiesIn v fun k => ¬ F k) : BytesAt w' v l := by
  have hlt := h.lies
  rcases h with h | ⟨bd, off, cap, rfl, hc⟩
  · exact .inl h
  · exact .inr ⟨bd, off, cap, rfl, fun i hi => (ho.cell (p := ⟨bd, off + i, none⟩) (hlt ⟨bd, off, none⟩ _ _ rfl (by omega)) (ha ⟨bd, off, none⟩ _ _ rfl (by omega))).trans (hc i hi)⟩
theorem BytesAt.below {w w' : World} {B : Nat} {v : Value} {l : List Nat} (h : BytesAt w v l) (ho : Below B w w') (ha : LiesIn v (· < B)) : BytesAt w' v l := by
  rcases h with h | ⟨bd, off, cap, rfl, hc⟩
  · exact .inl h
  · exact .inr ⟨bd, off, cap, rfl, fun i hi => (ho.cell (p := ⟨bd, off + i, none⟩) (ha ⟨bd, off, none⟩ _ _ rfl (by omega))).trans (hc i hi)⟩
theorem BytesAt.later {w w' : World} {v : Value} {l : List Nat} (h : BytesAt w v l) (ho : Below w.heap.size w w') : BytesAt w' v l := h.below ho h.lies
theorem BytesAt.length {w : World} {a : Option Addr} {len cap : Nat} {l : List Nat} (h : BytesAt w (.slice a len cap) l) : l.length = len := by
  rcases h with ⟨rfl, ao, c, e, h0⟩ | ⟨bd, off, c, e, hc⟩ <;> (injection e with e1 e2 e3; exact e2.symm)
theorem BytesAt.form {w : World} {v : Value} {l : List Nat} (h : BytesAt w v l) : ∃ a cap, v = .slice a l.length cap ∧ (a = none → l.length = 0 ∧ cap = 0) := by
  rcases h with ⟨rfl, ao, cap, rfl, h0⟩ | ⟨bd, off, cap, rfl, hc⟩
  · exact ⟨ao, cap, rfl, fun h => ⟨rfl, h0 h⟩⟩
  · exact ⟨_, _, rfl, fun h => by cases h⟩

theorem Try.info_byte : (Try.prog.info? 5).map (fun i => (i.zero, i.size, i.bytes)) = some (some (.int .u8 0), 1, 1) := by kernel_rfl
def byteCells (l : List Nat) : List Value := l.map fun (n : Nat) => Value.int .u8 (n : Int)
/-- A slice of bytes that the call itself made, from block base on, holds just these. -/
def Owns (base : Nat) (w : World) (v : Value) (l : List Nat) : Prop := w.ownsRow base 5 1 v l.length (byteCells l)
theorem Owns.nil (base : Nat) (w : World) : Owns base w (.slice none 0 0) [] := World.ownsRow_nil _ _ _ _
theorem byteCells_length (l : List Nat) : (byteCells l).length = l.length := by simp [byteCells]
theorem byteCells_get (l : List Nat) (i : Nat) (h : i < l.length) : (byteCells l)[i]? = some (.int .u8 (l.getD i 0 : Nat)) := by
  simp [byteCells, h]
theorem Owns.bytes {base : Nat} {w : World} {v : Value} {l : List Nat} (h : Owns base w v l) : BytesAt w v l := by
  obtain ⟨_, h2⟩ := h
  rcases h2 with ⟨rfl, h0⟩ | ⟨g, cap, cur, rfl, hb, hg, hn, hcap, hsz, htake⟩
  · exact .inl ⟨List.eq_nil_of_length_eq_zero h0, none, 0, rfl, fun _ => rfl⟩
  · refine .inr ⟨g, 0, cap, rfl, fun i hi => ?_⟩
    have e : w.cell? ⟨g, 0 + i, none⟩ = cur[i]? := by
      rw [Nat.zero_add]
      simp [World.cell?, hg]
    rw [e]
    have e2 : cur[i]? = (cur.toList.take (l.length * 1))[i]? := by
      rw [List.getElem?_take]
      simp [hi]
    rw [e2, htake, byteCells_get l i hi]
theorem Owns.from {base : Nat} {w : World} {v : Value} {l : List Nat} (h : Owns base w v l) : ∀ k, v.ownBlock = some k → base ≤ k ∧ k < w.heap.size := World.ownsRow.lt h
theorem Owns.lies {base : Nat} {w : World} {v : Value} {l : List Nat} (h : Owns base w v l) : LiesIn v fun k => base ≤ k ∧ k < w.heap.size := fun a _ _ e _ => h.from a.block (by rw [e]; rfl)
theorem Owns.mono {base base' : Nat} {w : World} {v : Value} {l : List Nat} (h : Owns base w v l) (hb : base' ≤ base) : Owns base' w v l := by
  refine ⟨h.1, ?_⟩
  rcases h.2 with hn | ⟨g, cap, cur, rfl, hbg, rest⟩
  · exact .inl hn
  · exact .inr ⟨g, cap, cur, rfl, by omega, rest⟩

theorem wp_append_bytes {o : Oper} {a : Act} {K : Act → World → Prop} {Q : Exit → Act → World → Prop} {w : World} (s x : Operand)
    (ho : o.op = .call { callee := .builtin .append, args := #[s, x], argTypes := #[28, 28] }) (base : Nat) (v : Value) (xs : List Nat) (hs : a.eval s = v) (hown : Owns base w v xs)
    (xv : Value) (l : List Nat) (hx : a.eval x = xv) (hxv : BytesAt w xv l) (hlen : xs.length + l.length ≤ 140737488355328) (hbase : base ≤ w.heap.size)
    (h : ∀ v' w', Owns base w' v' (xs ++ l) → w.grownBy w' v.ownBlock → K (a.put o.dst v') w') : o.wp Try.prog a w K Q := by
  obtain ⟨i0, hi, hz0, hz1, hz2⟩ := info_parts Try.info_byte
  have fin : ∀ v' w', w'.ownsRow base 5 1 v' (xs.length + l.length) (byteCells xs ++ byteCells l) → Owns base w' v' (xs ++ l) := fun v' w' hh => by
    unfold Owns
    rw [List.length_append]
    simpa [byteCells] using hh
  have one : ∀ u ∈ byteCells l, u.oneCell' = true := fun u hu => by
    obtain ⟨n, _, rfl⟩ := List.mem_map.1 hu
    rfl
  rcases hxv with ⟨rfl, ao, cap, rfl, h0⟩ | ⟨bd, off, cap, rfl, hc⟩
  · cases ao with
    | none =>
      obtain rfl := h0 rfl
      have hrun := run_append_owned_none (P := Try.prog) (w := w) base 28 o.type 5 i0 1 Try.underlying28 hi v _ _ hown
      unfold Oper.wp
      simp [execOp, ho, resolve, invoke, builtin, hs, hx, hrun, Result.andThen]
      exact h v w (by rw [List.append_nil]; exact hown) (World.grownBy.refl _ _)
    | some ad =>
      exact wp_append_own w s x 28 ho base 5 i0 (.int .u8 0) 1 1 Try.underlying28 hi hz0 hz1 hz2 rfl (by decide) v _ _ hs hown ad 0 cap [] hx rfl (fun j u hj => by simp at hj) (fun u hu => by simp at hu)
        (by unfold maxLen; omega) (by simp at hlen ⊢; omega) hbase fun v' w' h2 h3 _ => h v' w' (fin v' w' h2) h3
  · exact wp_append_own w s x 28 ho base 5 i0 (.int .u8 0) 1 1 Try.underlying28 hi hz0 hz1 hz2 rfl (by decide) v _ _ hs hown ⟨bd, off, none⟩ l.length cap (byteCells l) hx (by rw [byteCells_length]; omega)
        (fun j u hj => by
          have hjl : j < l.length := by
            rcases Nat.lt_or_ge j l.length with h' | h'
            · exact h'
            · rw [List.getElem?_eq_none (by rw [byteCells_length]; exact h')] at hj; cases hj
          rw [byteCells_get l j hjl] at hj
          injection hj with hj
          rw [← hj, ← hc j hjl]
          rw [← Go.WideShapes.add_plain])
        one (by unfold maxLen; omega) (by omega) hbase fun v' w' h2 h3 _ => h v' w' (fin v' w' h2) h3
theorem wpList_append_bytes {ops : Array Oper} {rest : List Oper} {o : Oper} {a : Act} {Q : Exit → Act → World → Prop} {w : World} (hgd : o.guard = none) (s x : Operand)
    (ho : o.op = .call { callee := .builtin .append, args := #[s, x], argTypes := #[28, 28] }) (base : Nat) (v : Value) (xs : List Nat) (hs : a.eval s = v) (hown : Owns base w v xs)
    (xv : Value) (l : List Nat) (hx : a.eval x = xv) (hxv : BytesAt w xv l) (hlen : xs.length + l.length ≤ 140737488355328) (hbase : base ≤ w.heap.size)
    (h : ∀ v' w', Owns base w' v' (xs ++ l) → w.grownBy w' v.ownBlock → wpList Try.prog ops Q rest (a.put o.dst v') w') : wpList Try.prog ops Q (o :: rest) a w :=
  wpList_plain hgd fun _ hK => wp_append_bytes s x ho base v xs hs hown xv l hx hxv hlen hbase fun v' w' h1 h2 => hK _ _ (h v' w' h1 h2)
end Go.Proofs.Ytmanldcohbegkaa
