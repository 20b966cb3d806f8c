/-
  The model: slices.Chunk over bytes, as an iterator.
-/
import Derived.Test.YtmanldcohbegkaaMdRead
import Derived.RangeFuncWrites
import Derived.WalkKit
import Derived.OwnWalkIn
import Derived.TacticsInMore
import Derived.LoopNIn
import Derived.LoopIn
import Derived.Sort.QuietIn
namespace Go.Proofs.Ytmanldcohbegkaa
open Go.RowKit Go.Shelf

attribute [local go_sem] Oper.semAt_some

abbrev Pc (cnt : Nat) := { k : Nat // k < cnt }
def pcs (cnt k : Nat) (hk : k ≤ cnt) : List (Pc cnt) := (List.range k).attach.map fun x => ⟨x.1, by have := List.mem_range.1 x.2; omega⟩
theorem pcs_succ (cnt k : Nat) (hk : k < cnt) : pcs cnt (k + 1) hk = pcs cnt k (by omega) ++ [⟨k, hk⟩] := by
  apply List.ext_getElem
  · simp [pcs]
  · intro i h1 h2
    simp [pcs] at h1
    apply Subtype.ext
    rcases Nat.lt_or_ge i k with h | h
    · rw [List.getElem_append_left (by simpa [pcs] using h)]
      simp [pcs]
    · obtain rfl : i = k := by omega
      rw [List.getElem_append_right (by simp [pcs])]
      simp [pcs]
theorem pcs_length (cnt k : Nat) (hk : k ≤ cnt) : (pcs cnt k hk).length = k := by simp [pcs]
def encP (g off : Nat) {cnt : Nat} (x : Pc cnt) : Array Value := #[.slice (some ⟨g, off + x.1 * 64, none⟩) 64 64]
/-- What a round keeps: the two boxes. -/
def KpC (A B : Nat) (W W' : World) : Prop := W.heap.size ≤ W'.heap.size ∧ W'.heap[A]? = W.heap[A]? ∧ W'.heap[B]? = W.heap[B]?

theorem drewN_grown (w : World) (n : Nat) : w.grownBy (w.drewN n) none := by rw [drewN_eq]; exact ⟨rfl, rfl, rfl, Nat.le_refl _, fun _ _ _ => rfl⟩
set_option maxRecDepth 100000 in
set_option maxHeartbeats 2000000 in
theorem chunk1_in (n : Nat) (hn : 1 ≤ n) (l A B g off cnt len cap : Nat) (hcnt : cnt ≤ 8) (hlen : len = cnt * 64) (hcap : len ≤ cap) (J Jx : List (Pc cnt) → World → Prop)
    (hY : ∀ pre x W, J pre W → pre.length < cnt → YieldAt Fence.wide (n - 1) Try.prog l (encP g off x) W fun e W' =>
      (e = .returned (.bool true) ∧ J (pre ++ [x]) W' ∧ KpC A B W W') ∨ (e = .returned (.bool false) ∧ Jx (pre ++ [x]) W'))
    (W : World) (hJ : AbidesFrom W.heap.size J) (hA : W.heap[A]? = some (.cells #[.slice (some ⟨g, off, none⟩) len cap] 28 (0, 0))) (hB : W.heap[B]? = some (.cells #[.int .i64 64] 3 (0, 0))) (h0 : J [] W) :
    CallsIn Fence.wide n Try.prog 58 #[.func (.yield l) #[] #[], .pointer (some ⟨A, 0, none⟩), .pointer (some ⟨B, 0, none⟩)] W fun e W' => (∃ v, e = .returned v) ∧
      ((∃ ys, ys = pcs cnt cnt (Nat.le_refl _) ∧ J ys W') ∨ (∃ pre, (∃ k hk, pre = pcs cnt k hk) ∧ Jx pre W')) := by
  refine callsIn_of_wp Try.func58 rfl trivial ?_ rfl
  simp only [Try.ntmps58, List.size_toArray, List.length_cons, List.length_nil, Nat.reduceAdd, Nat.reduceSub, Array.replicate_succ, Array.replicate_zero, List.push_toArray, List.append_toArray, List.nil_append, List.cons_append]
  gi_wp2
  gi_loopw [4] (fun i wr => ∃ (k : Nat) (hk : k ≤ cnt), i = .int .i64 ((k * 64 : Nat) : Int) ∧ J (pcs cnt k hk) wr ∧ wr.heap[A]? = some (.cells #[.slice (some ⟨g, off, none⟩) len cap] 28 (0, 0)) ∧ wr.heap[B]? = some (.cells #[.int .i64 64] 3 (0, 0)))
    (fun i _ => len - (intOf i).toNat)
  case atStart => exact ⟨0, Nat.zero_le _, rfl, h0, hA, hB⟩
  case round =>
    obtain ⟨k, hk, rfl, hJs, hA2, hB2⟩ := hrel
    have hcA : wr.cell? ⟨A, 0, none⟩ = some (.slice (some ⟨g, off, none⟩) len cap) := by simp [World.cell?, hA2]
    have hcB : wr.cell? ⟨B, 0, none⟩ = some (.int .i64 64) := by simp [World.cell?, hB2]
    by_cases hlt : k < cnt
    · have hk1 : k * 64 + 64 ≤ len := by omega
      have hi1 : ((k * 64 : Nat) : Int) < (len : Int) := by omega
      have hs1 : (0 : Int) ≤ ((k * 64 : Nat) : Int) ∧ ((k * 64 : Nat) : Int) ≤ (len : Int) := by omega
      have hs3 : (((k * 64 : Nat) : Int)).toNat = k * 64 := by omega
      have hs4 : ¬ cap = k * 64 := by omega
      gi_wp2
      gi_quiet (fail)
      have hJd : J (pcs cnt k hk) (wr.drewN nq) := hJ _ _ _ none hJs (drewN_grown wr nq) (fun r e => by cases e)
      have hA3 : (wr.drewN nq).heap[A]? = some (.cells #[.slice (some ⟨g, off, none⟩) len cap] 28 (0, 0)) := by rw [drewN_eq]; exact hA2
      have hB3 : (wr.drewN nq).heap[B]? = some (.cells #[.int .i64 64] 3 (0, 0)) := by rw [drewN_eq]; exact hB2
      obtain ⟨fn, tmps, assign, body, hy, hR⟩ := hY _ (⟨k, hlt⟩ : Pc cnt) (wr.drewN nq) hJd (by rw [pcs_length]; exact hlt)
      dsimp only [encP] at hy
      gi_wp2
      refine hR.mono ?_
      rintro e W3 (⟨rfl, hJ3, hk3⟩ | ⟨rfl, hJx3⟩)
      · have hA4 := hk3.2.1.trans hA3
        have hB4 := hk3.2.2.trans hB3
        have hcB4 : W3.cell? ⟨B, 0, none⟩ = some (.int .i64 64) := by simp [World.cell?, hB4]
        have hwr : IntKind.i64.wrap (((k * 64 : Nat) : Int) + 64) = (((k + 1) * 64 : Nat) : Int) := by rw [IntWalk.i64_in _ (by omega)]; omega
        gi_wp2
        go_roundw
        case rel => exact ⟨k + 1, by omega, by simp; omega, by rw [pcs_succ]; exact hJ3, hA4, hB4⟩
        case measure => simp [intOf]; omega
      · gi_wp2
        refine bodyPost_ret (results_none rfl _ _ _) rfl ?_
        exact ⟨⟨_, rfl⟩, .inr ⟨_, ⟨k + 1, hlt, (pcs_succ _ _ hlt).symm⟩, hJx3⟩⟩
    · obtain rfl : k = cnt := by omega
      have hi1 : ¬ ((k * 64 : Nat) : Int) < (len : Int) := by omega
      gi_wp2
      go_end0
      exact ⟨⟨_, rfl⟩, .inl hJs⟩
set_option maxHeartbeats 1000000 in
/-- slices.Chunk: the bytes and the size are boxed. -/
theorem chunk_any (a : Option Addr) (len cap : Nat) (w : World) :
    Calls Try.prog 55 #[.slice a len cap, .int .i64 64] w fun e w' => e = .returned (.func (.func 58) #[] #[.pointer (some ⟨w.heap.size, 0, none⟩), .pointer (some ⟨w.heap.size + 1, 0, none⟩)]) ∧ w' = (w.alloc (.cells #[.slice a len cap] 28)).alloc (.cells #[.int .i64 64] 3) := by
  go_enter Try.func55, Try.ntmps55
  go_wp2
  go_ret
  exact ⟨rfl, rfl⟩
theorem chunk_stops (n : Nat) (hn : 1 ≤ n) (A B g off cnt len cap : Nat) (hcnt : cnt ≤ 8) (hlen : len = cnt * 64) (hcap : len ≤ cap) (w : World) (hA : w.heap[A]? = some (.cells #[.slice (some ⟨g, off, none⟩) len cap] 28 (0, 0))) (hB : w.heap[B]? = some (.cells #[.int .i64 64] 3 (0, 0))) :
    SeqStopsK Fence.wide n Try.prog 58 #[.pointer (some ⟨A, 0, none⟩), .pointer (some ⟨B, 0, none⟩)] (fun x : Pc cnt => encP g off x) (KpC A B) (fun ys => ys = pcs cnt cnt (Nat.le_refl _)) (fun pre => ∃ k hk, pre = pcs cnt k hk) cnt w := fun l J Jx W hW hJ _ hY h0 =>
  chunk1_in n hn l A B g off cnt len cap hcnt hlen hcap J Jx hY W hJ ((hW.block A (Array.getElem?_eq_some_iff.1 hA).1).trans hA) ((hW.block B (Array.getElem?_eq_some_iff.1 hB).1).trans hB) h0
end Go.Proofs.Ytmanldcohbegkaa
