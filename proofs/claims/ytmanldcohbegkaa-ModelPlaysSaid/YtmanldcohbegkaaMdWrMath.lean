/-
  The model: bytes.Clone; what write comes to.
-/
import Derived.Test.YtmanldcohbegkaaMdChunk
import Derived.Lib.SlBytesConst
namespace Go.Proofs.Ytmanldcohbegkaa
open Go.RowKit

set_option maxRecDepth 100000 in
set_option maxHeartbeats 1600000 in
theorem clone_any (v : Value) (l : List Nat) (w : World) (hd : BytesAt w v l) (hl : l.length ≤ 140737488355328) :
    Calls Try.prog 56 #[v] w fun e w' => ∃ v', e = .returned v' ∧ Owns w.heap.size w' v' l ∧ Below w.heap.size w w' := by
  obtain ⟨ao, cap, rfl, h0⟩ := hd.form
  have HD := Lib.hid hd; clear hd
  have hn := fun (w : World) (a : Option Addr) (n c : Nat) => Lib.run_eql_slice_nil (P := Try.prog) w 28 5 a n c 0 0 Try.underlying28
  cases ao with
  | none =>
    obtain ⟨hl0, rfl⟩ := h0 rfl
    obtain rfl := List.eq_nil_of_length_eq_zero hl0
    go_enter Try.func56, Try.ntmps56
    go_wp2
    go_ret
    exact ⟨_, rfl, Owns.nil _ _, Below.refl _ _⟩
  | some a =>
    go_enter Try.func56, Try.ntmps56
    go_wp2_with (at_builtin; refine wpList_append_bytes rfl (.tmp 5) (.tmp 6) rfl w.heap.size (.slice (some ⟨w.heap.size, 0, none⟩) 0 0) [] rfl (World.ownsRow_made w #[] 0 (Nat.le_refl _) (Nat.zero_le _) rfl) _ l rfl (HD.out.later ((Below.refl _ _).alloc (Nat.le_refl _) _)) (by simp; omega) (by simp) ?_; intro v' w' hown hgrow; rw [List.nil_append] at hown; have HO := Lib.hid hown; clear hown; have HG := Lib.hid hgrow; clear hgrow)
    go_ret
    refine ⟨_, rfl, HO.out, ((Below.refl _ _).alloc (Nat.le_refl _) _).grown HG.out (by simp) (fun k hk => ?_)⟩
    simp [Value.ownBlock] at hk
    omega

def piece (data : List Nat) (k : Nat) : List Nat := (data.drop (k * 64)).take 64
/-- Pieces are written one by one: the map behind it, how many, and why not all. -/
def wrS (q a : Int) : List (List Nat) → Nat → List (Int × List Nat) → List (Int × List Nat) × Nat × Int
  | [], k, bl => (bl, k, 0)
  | x :: xs, k, bl => if getAt (a + k) bl = none ∧ q ≤ (bl.length : Int) then (bl, k, 30) else wrS q a xs (k + 1) (putAt (a + k) x bl)
theorem wrS_append (q a : Int) (ys : List (List Nat)) : ∀ (xs : List (List Nat)) (k : Nat) (bl : List (Int × List Nat)), wrS q a (xs ++ ys) k bl = if (wrS q a xs k bl).2.2 = 0 then wrS q a ys (wrS q a xs k bl).2.1 (wrS q a xs k bl).1 else wrS q a xs k bl
  | [], k, bl => by simp [wrS]
  | x :: xs, k, bl => by
    simp only [List.cons_append, wrS]
    split
    · simp
    · exact wrS_append q a ys xs _ _
theorem wrS_go {q a : Int} {xs : List (List Nat)} {bl bl' : List (Int × List Nat)} {k : Nat} (h : wrS q a xs 0 bl = (bl', k, 0)) (x : List Nat) (hn : ¬ (getAt (a + k) bl' = none ∧ q ≤ (bl'.length : Int))) : wrS q a (xs ++ [x]) 0 bl = (putAt (a + k) x bl', k + 1, 0) := by
  rw [wrS_append, h]
  simp [wrS, hn]
theorem wrS_full {q a : Int} {xs : List (List Nat)} {bl bl' : List (Int × List Nat)} {k : Nat} (h : wrS q a xs 0 bl = (bl', k, 0)) (x : List Nat) (hn : getAt (a + k) bl' = none ∧ q ≤ (bl'.length : Int)) : wrS q a (xs ++ [x]) 0 bl = (bl', k, 30) := by
  rw [wrS_append, h]
  simp [wrS, hn]
theorem wrS_stop {q a : Int} {xs : List (List Nat)} {bl bl' : List (Int × List Nat)} {k : Nat} (h : wrS q a xs 0 bl = (bl', k, 30)) (ys : List (List Nat)) : wrS q a (xs ++ ys) 0 bl = (bl', k, 30) := by
  rw [wrS_append, h]
  simp
def pieces (data : List Nat) (n : Nat) : List (List Nat) := (List.range n).map (piece data)
theorem pieces_pcs (data : List Nat) (cnt k : Nat) (hk : k ≤ cnt) : (pcs cnt k hk).map (fun x => piece data x.1) = pieces data k := by
  apply List.ext_getElem
  · simp [pcs, pieces]
  · intro i h1 h2
    simp [pcs, pieces]
theorem pieces_more (data : List Nat) (cnt k : Nat) (hk : k ≤ cnt) : ∃ ys, pieces data cnt = pieces data k ++ ys := by
  obtain ⟨d, rfl⟩ : ∃ d, cnt = k + d := ⟨cnt - k, by omega⟩
  exact ⟨_, by unfold pieces; rw [List.range_add, List.map_append]⟩
def writeS (v : Vo) (a : Int) (data : List Nat) (n : Nat) : List (Int × List Nat) × Nat × Int := wrS v.quota a (pieces data n) 0 v.bl
theorem piece_length {data : List Nat} {cnt k : Nat} (h : data.length = cnt * 64) (hk : k < cnt) : (piece data k).length = 64 := by
  unfold piece
  rw [List.length_take, List.length_drop]
  have : k * 64 + 64 ≤ cnt * 64 := by omega
  omega
end Go.Proofs.Ytmanldcohbegkaa
