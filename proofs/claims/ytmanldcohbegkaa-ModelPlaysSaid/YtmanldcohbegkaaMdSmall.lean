/-
  The model: sized, trouble, four, bytes.Clone.
-/
import Derived.Test.YtmanldcohbegkaaMdFind
namespace Go.Proofs.Ytmanldcohbegkaa
open Go.RowKit

def sizedB (n : Int) : Bool := decide (1 ≤ n) && decide (n ≤ 1048576)
set_option maxRecDepth 100000 in
set_option maxHeartbeats 1600000 in
theorem sized_any (n : Int) (w : World) : Calls Try.prog 33 #[.int .i64 n] w fun r w' => r = .returned (.bool (sizedB n)) ∧ w' = w := by
  unfold sizedB
  by_cases h1 : 1 ≤ n
  · have e1 : decide (1 ≤ n) = true := by simp [h1]
    rw [e1]
    go_enter Try.func33, Try.ntmps33
    go_wp2
    go_ret
    exact ⟨rfl, rfl⟩
  · have e1 : decide (1 ≤ n) = false := by simp [h1]
    rw [e1]
    go_enter Try.func33, Try.ntmps33
    go_wp2
    go_ret
    exact ⟨rfl, rfl⟩

def badList : List Int := [10, 11, 12, 13, 14, 15, 16, 17, 18, 20, 21, 22]
def troubleB (op s : Int) : Bool := if s = 32 then (op == 6 || op == 7) else (op != 1 && op != 10 && badList.contains s)
set_option maxRecDepth 100000 in
set_option maxHeartbeats 1600000 in
theorem index_no (n cap g : Nat) (l : List Int) (s : Int) (w : World) (hc : ∀ k x, l[k]? = some x → w.cell? ⟨g, k, none⟩ = some (.int .i64 x)) (hn1 : n ≤ l.length) (hn2 : l.length ≤ n) (hlen : n ≤ 100) :
    Calls Try.prog 52 #[.slice (some ⟨g, 0, none⟩) n cap, .int .i64 s] w fun r w' => r = .returned (.int .i64 (firstAt (fun x => s == x) l)) ∧ w' = w := by
  have HC := Lib.hid hc; clear hc
  go_enter Try.func52, Try.ntmps52
  go_wp2_with fail
  go_loopw [8] (fun i wr => ∃ k : Nat, k ≤ n ∧ i = .int .i64 k ∧ wr = w ∧ ∀ j, j < k → ∀ e, l[j]? = some e → (s == e) = false) (fun i _ => n - (intOf i).toNat)
  case atStart => exact ⟨0, by omega, rfl, rfl, fun j hj => by omega⟩
  case round =>
    obtain ⟨k, hk, rfl, rfl, hno⟩ := hrel
    have HN := Lib.hid hno; clear hno
    by_cases hlt : k < n
    · obtain ⟨e, he⟩ : ∃ e, l[k]? = some e := ⟨l[k]'(by omega), by simp [show k < l.length by omega]⟩
      have hcell := HC.out k e he
      have HE := Lib.hid he; clear he
      have hkn : (k : Int) < (n : Int) := by omega
      have hk0 : (0 : Int) ≤ (k : Int) := by omega
      by_cases hp : s = e
      · have hd : (s == e) = true := by simp [hp]
        have HD := Lib.hid hd
        go_wp2
        go_ret
        exact ⟨by rw [firstAt_some HE.out HD.out HN.out]; rfl, rfl⟩
      · have hd : (s == e) = false := by simp [hp]
        have HD := Lib.hid hd
        go_wp2
        go_roundw
        case rel =>
          refine ⟨k + 1, by omega, by go_num, by first | trivial | rfl, fun j hj x hx => ?_⟩
          by_cases hjk : j = k
          · subst hjk
            rw [HE.out] at hx
            injection hx with hx
            rw [← hx]; exact HD.out
          · exact HN.out j (by omega) x hx
        case measure => simp [intOf]; omega
    · obtain rfl : k = n := by omega
      have hkk : ¬ (k : Int) < (k : Int) := by omega
      go_wp2
      go_ret
      exact ⟨by rw [firstAt_none (fun j hj => HN.out j (by omega))]; rfl, rfl⟩
theorem firstAt_has {l : List Int} {s : Int} : decide (0 ≤ firstAt (fun x => s == x) l) = l.contains s := by
  unfold firstAt
  cases h : l.findIdx? (fun x => s == x) with
  | none =>
    have : l.contains s = false := by
      rw [List.findIdx?_eq_none_iff] at h
      rw [List.contains_eq_any_beq, List.any_eq_false]
      intro x hx
      simpa using h x hx
    rw [this]; rfl
  | some i =>
    have : l.contains s = true := by
      rw [List.findIdx?_eq_some_iff_getElem] at h
      obtain ⟨hi, hp, _⟩ := h
      rw [List.contains_eq_any_beq, List.any_eq_true]
      exact ⟨l[i], List.getElem_mem hi, hp⟩
    rw [this]; simp
set_option maxRecDepth 100000 in
set_option maxHeartbeats 1600000 in
theorem contains_any (n cap g : Nat) (l : List Int) (s : Int) (w : World) (hc : ∀ k x, l[k]? = some x → w.cell? ⟨g, k, none⟩ = some (.int .i64 x)) (hn1 : n ≤ l.length) (hn2 : l.length ≤ n) (hlen : n ≤ 100) :
    Calls Try.prog 31 #[.slice (some ⟨g, 0, none⟩) n cap, .int .i64 s] w fun r w' => r = .returned (.bool (l.contains s)) ∧ w' = w := by
  have HI := Lib.hid (index_no n cap g l s w hc hn1 hn2 hlen); clear hc
  have hh := firstAt_has (l := l) (s := s)
  go_enter Try.func31, Try.ntmps31
  go_wp2_with (go_at_call 52; refine HI.out.mono ?_; rintro r w1 ⟨rfl, rfl⟩)
  go_ret
  exact ⟨by first | rfl | (simp; done), rfl⟩
set_option maxRecDepth 100000 in
set_option maxHeartbeats 3200000 in
theorem trouble_any (op s : Int) (w : World) : Calls Try.prog 22 #[.int .i64 op, .int .i64 s] w fun r w' => r = .returned (.bool (troubleB op s)) ∧ Below w.heap.size w w' := by
  by_cases h32 : s = 32
  · subst h32
    have ht : troubleB op 32 = (op == 6 || op == 7) := rfl
    rw [ht]
    by_cases h6 : op = 6
    · have e : (op == 6) = true := by simp [h6]
      rw [e]
      have HE := Lib.hid e
      subst h6
      go_enter Try.func22, Try.ntmps22
      go_wp2
      go_ret
      exact ⟨rfl, Below.refl _ _⟩
    · have e : (op == 6) = false := by simp [h6]
      rw [e]
      go_enter Try.func22, Try.ntmps22
      go_wp2
      go_ret
      exact ⟨rfl, Below.refl _ _⟩
  · have ht : troubleB op s = (op != 1 && op != 10 && badList.contains s) := by unfold troubleB; rw [if_neg h32]
    rw [ht]
    have hs : (s == 32) = false := by simp [h32]
    obtain ⟨W, hW⟩ : ∃ W, W = w.alloc (.cells #[.int .i64 10, .int .i64 11, .int .i64 12, .int .i64 13, .int .i64 14, .int .i64 15, .int .i64 16, .int .i64 17, .int .i64 18, .int .i64 20, .int .i64 21, .int .i64 22] 31) := ⟨_, rfl⟩
    have hb : Below w.heap.size w W := by rw [hW]; exact allocBelow w _
    have HB := Lib.hid hb
    have HC := Lib.hid (contains_any 12 12 w.heap.size badList s W (fun k x hx => by
      rw [hW, (CellsAt.new w _ _).cell k]
      have hk : k < 12 := (List.getElem?_eq_some_iff.1 hx).1
      have : k = 0 ∨ k = 1 ∨ k = 2 ∨ k = 3 ∨ k = 4 ∨ k = 5 ∨ k = 6 ∨ k = 7 ∨ k = 8 ∨ k = 9 ∨ k = 10 ∨ k = 11 := by omega
      rcases this with rfl | rfl | rfl | rfl | rfl | rfl | rfl | rfl | rfl | rfl | rfl | rfl <;> (simp [badList] at hx; subst hx; rfl)) (by decide) (by decide) (by decide))
    have HW := Lib.hid hW
    clear hb hW
    by_cases h1 : op = 1
    · have e : (op != 1) = false := by simp [h1]
      rw [e]
      subst h1
      go_enter Try.func22, Try.ntmps22
      go_wp2_with fail
      rw [← HW.out]
      go_wp2
      go_ret
      exact ⟨rfl, HB.out⟩
    · have e : (op != 1) = true := by simp [h1]
      by_cases h10 : op = 10
      · have e2 : (op != 10) = false := by simp [h10]
        rw [e, e2]
        subst h10
        go_enter Try.func22, Try.ntmps22
        go_wp2_with fail
        rw [← HW.out]
        go_wp2
        go_ret
        exact ⟨rfl, HB.out⟩
      · have e2 : (op != 10) = true := by simp [h10]
        rw [e, e2]
        go_enter Try.func22, Try.ntmps22
        go_wp2_with fail
        rw [← HW.out]
        go_wp2_with (go_at_call 31; refine HC.out.mono ?_; rintro r w1 ⟨rfl, rfl⟩)
        go_ret
        exact ⟨by first | rfl | (simp; done), HB.out⟩

/-- Four bytes of a number. -/
def fourB (n : Nat) : List Nat := [n / 16777216, n / 65536 % 256, n / 256 % 256, n % 256]
def fourCells (n : Nat) : Array Value := #[.int .u8 ((n : Int) / 16777216), .int .u8 ((n : Int) / 65536 % 256), .int .u8 ((n : Int) / 256 % 256), .int .u8 ((n : Int) % 256)]
theorem four_bytes (n : Nat) (w : World) : BytesAt (w.alloc (.cells (fourCells n) 5)) (.slice (some ⟨w.heap.size, 0, none⟩) 4 4) (fourB n) := by
  refine .inr ⟨w.heap.size, 0, 4, rfl, fun i hi => ?_⟩
  rw [Nat.zero_add, (CellsAt.new w _ _).cell i]
  have hi : i < 4 := hi
  have : i = 0 ∨ i = 1 ∨ i = 2 ∨ i = 3 := by omega
  rcases this with rfl | rfl | rfl | rfl <;> simp [fourCells, fourB]
set_option maxRecDepth 100000 in
set_option maxHeartbeats 3200000 in
theorem four_any (base : Nat) (v : Value) (xs : List Nat) (n : Nat) (w : World) (hown : Owns base w v xs) (hb : base ≤ w.heap.size) (hlen : xs.length ≤ 1000) (hn : n < 2147483648) :
    Calls Try.prog 39 #[v, .int .i64 (n : Int)] w fun r w' => ∃ v', r = .returned v' ∧ Owns base w' v' (xs ++ fourB n) ∧ Keeps (fun k => v.ownBlock = some k) w w' := by
  have HX := Lib.hid (four_bytes n w)
  obtain ⟨W, hW⟩ : ∃ W, W = w.alloc (.cells (fourCells n) 5) := ⟨_, rfl⟩
  have HO := Lib.hid (show Owns base W v xs by rw [hW]; exact World.ownsRow.alloc hown _)
  have HK := Lib.hid (show Below w.heap.size w W by rw [hW]; exact allocBelow w _)
  rw [← hW] at HX
  have hbW : base ≤ W.heap.size := by rw [hW]; simp; omega
  have hlX : (fourB n).length = 4 := rfl
  unfold fourCells at hW
  have HW := Lib.hid hW
  clear hown hW
  go_enter Try.func39, Try.ntmps39
  go_wp2_with (at_builtin; rw [← HW.out]; refine wpList_append_bytes rfl (.tmp 5) (.tmp 17) rfl base v xs rfl HO.out _ (fourB n) rfl HX.out (by omega) hbW ?_; intro v' w' hown hgrow; have HO' := Lib.hid hown; clear hown; have HG := Lib.hid hgrow; clear hgrow)
  go_ret
  exact ⟨_, rfl, HO'.out, (Keeps.of_below HK.out).trans (Keeps.of_grown HG.out (fun k hk => hk)) (fun _ _ h => h)⟩
end Go.Proofs.Ytmanldcohbegkaa
