/-
  PDUs: the small functions: whole, fits, put, number.
-/
import Derived.Test.YtodmpchnjakchaaPduMath
import Derived.Test.YtodmpchnjakchaaPCrcSum
import Derived.Deep.LoopGhost
import Derived.Deep.CutRange
namespace Go.Proofs.Ytodmpchnjakchaa
open Go.RowKit

theorem allocBelow (w : World) (o : Obj) : Below w.heap.size w (w.alloc o) := (Below.refl _ _).alloc (Nat.le_refl _) _
theorem and_mask (x : Nat) (hx : x < 18446744073709551616) : x &&& 18446744073709551612 = x / 4 * 4 := by
  have h := Nat.two_pow_pos 2
  apply Nat.eq_of_testBit_eq
  intro i
  rw [Nat.testBit_and]
  have e1 : (18446744073709551612 : Nat) = 2 ^ 2 * (2 ^ 62 - 1) := by decide
  have e2 : x / 4 * 4 = 2 ^ 2 * (x / 2 ^ 2) := by omega
  rw [e1, e2, Nat.testBit_two_pow_mul, Nat.testBit_two_pow_mul, Nat.testBit_two_pow_sub_one, Nat.testBit_div_two_pow]
  by_cases hi : 2 ≤ i
  · by_cases h64 : i < 64
    · have : i - 2 < 62 := by omega
      have e : i - 2 + 2 = i := by omega
      simp [hi, this, e]
    · have : x.testBit i = false := Nat.testBit_lt_two_pow (Nat.lt_of_lt_of_le (by omega : x < 2 ^ 64) (Nat.pow_le_pow_right (by omega) (by omega)))
      have e : i - 2 + 2 = i := by omega
      simp [hi, this, e]
  · simp [hi]
theorem andNot3 (x : Nat) (hx : x < 9223372036854775808) : bits .andNot .i64 (x : Int) 3 = ((x / 4 * 4 : Nat) : Int) := by
  show IntKind.i64.wrap ((BitVec.ofInt 64 (x : Int) &&& ~~~BitVec.ofInt 64 3).toNat : Int) = _
  have h1 : (BitVec.ofInt 64 3).toNat = 3 := by decide
  rw [BitVec.toNat_and, BitVec.toNat_not, ofInt_u64 x (by omega), h1, show 2 ^ 64 - 1 - 3 = 18446744073709551612 by decide, and_mask x (by omega)]
  exact IntWalk.i64_in _ (by omega)

theorem whole_any (n : Nat) (w : World) (h : n ≤ 1000000000000) :
    Calls Try.prog 20 #[.int .i64 (n : Int)] w fun e w' => e = .returned (.int .i64 (Pdu.pad4 n : Nat)) ∧ w = w' := by
  have e : bits .andNot .i64 ((n : Int) + 3) 3 = ((Pdu.pad4 n : Nat) : Int) := andNot3 (n + 3) (by omega)
  go_enter Try.func20, Try.ntmps20
  go_wp2_with fail
  go_ret
  exact ⟨rfl, rfl⟩

set_option maxRecDepth 100000 in
set_option maxHeartbeats 1600000 in
theorem fits_any (n : Int) (k : Nat) (w : World) (hk : k ≤ 6) (hn : -9223372036854775808 ≤ n ∧ n ≤ 9223372036854775807) :
    Calls Try.prog 31 #[.int .i64 n, .int .i64 (k : Int)] w fun e w' => e = .returned (.bool (Pdu.fits n k)) ∧ w = w' := by
  by_cases h0 : 0 ≤ n
  · go_enter Try.func31, Try.ntmps31
    go_wp2_with fail
    go_ret
    refine ⟨?_, rfl⟩
    have e : Pdu.fits n k = (n / 2 ^ (8 * k) == 0) := by
      obtain ⟨m, rfl⟩ := Int.eq_ofNat_of_zero_le h0
      have e1 : (256 : Nat) ^ k = 2 ^ (8 * k) := by rw [Nat.pow_mul]
      have e2 : ((m : Int) / 2 ^ (8 * k)) = ((m / 2 ^ (8 * k) : Nat) : Int) := by simp
      unfold Pdu.fits
      rw [e1, e2, Bool.eq_iff_iff]
      simp only [Bool.and_eq_true, decide_eq_true_eq, beq_iff_eq]
      have h2 := Nat.two_pow_pos (8 * k)
      constructor
      · rintro ⟨_, h⟩
        have : m < 2 ^ (8 * k) := by omega
        rw [Nat.div_eq_of_lt this]; rfl
      · intro h
        have h' : m / 2 ^ (8 * k) = 0 := by omega
        rcases Nat.div_eq_zero_iff.1 h' with h' | h'
        · omega
        · exact ⟨by omega, by omega⟩
    rw [e]
    rfl
  · have t0 : decide (0 ≤ n) = false := by simp; omega
    go_enter Try.func31, Try.ntmps31
    go_wp2_with fail
    go_ret
    exact ⟨by simp [Pdu.fits, t0], rfl⟩

theorem BytesAt.one (w : World) (x : Nat) (T : TypeId) : BytesAt (w.alloc (.cells #[.int .u8 (x : Int)] T)) (.slice (some ⟨w.heap.size, 0, none⟩) 1 1) [x] :=
  .inr ⟨w.heap.size, 0, 1, rfl, fun i hi => by
    have h0 : i = 0 := by simpa using hi
    subst h0
    exact World.cell?_alloc_new _ _ _ _⟩
theorem be_get (k n : Nat) : ∀ m, m < k → (Pdu.be k n)[m]? = some (n / 256 ^ (k - 1 - m) % 256) := by
  induction k with
  | zero => intro m h; omega
  | succ k ih =>
    intro m h
    cases m with
    | zero => simp [Pdu.be]
    | succ m =>
      rw [Pdu.be, List.getElem?_cons_succ, ih m (by omega)]
      congr 4
      omega

theorem be_take (k n m : Nat) (h : m < k) : (Pdu.be k n).take (m + 1) = (Pdu.be k n).take m ++ [n / 256 ^ (k - 1 - m) % 256] := by
  have hg := be_get k n m h
  have hl : m < (Pdu.be k n).length := by rw [Pdu.be_length]; exact h
  rw [List.take_succ_eq_append_getElem hl]
  rw [List.getElem?_eq_getElem hl] at hg
  injection hg with hg
  rw [hg]

set_option maxRecDepth 100000 in
set_option maxHeartbeats 3200000 in
theorem put_any (base : Nat) (v : Value) (l : List Nat) (n k : Nat) (w : World) (h : Owns base w v l) (hb : base ≤ w.heap.size) (hk : k ≤ 6) (hl : l.length ≤ 1000000) :
    Calls Try.prog 22 #[v, .int .i64 (n : Int), .int .i64 (k : Int)] w fun e w' => ∃ v', e = .returned v' ∧ Owns base w' v' (l ++ Pdu.be k n) ∧ Below base w w' := by
  have HO := Lib.hid h; clear h
  go_enter Try.func22, Try.ntmps22
  go_wp2_with fail
  go_loopg [0, 7] k (fun g s0 s7 wx => g ≤ k ∧ s7 = .int .i64 ((g : Int) - 1) ∧ Owns base wx s0 (l ++ (Pdu.be k n).take (k - g)) ∧ Below base w wx)
  case atStart => exact ⟨Nat.le_refl _, by go_num, by simpa using HO.out, Below.refl _ _⟩
  case round =>
    obtain ⟨hg, rfl, hown, hkp⟩ := hrel
    have HX := Lib.hid hown; clear hown
    have HK := Lib.hid hkp; clear hkp
    have hsz := HK.out.size
    by_cases h0 : gk = 0
    · subst h0
      go_wp2_with fail
      go_ret
      refine ⟨_, rfl, ?_, HK.out⟩
      have := HX.out
      rwa [Nat.sub_zero, List.take_of_length_le (by rw [Pdu.be_length]; omega)] at this
    · obtain ⟨j, rfl⟩ : ∃ j, gk = j + 1 := ⟨gk - 1, by omega⟩
      clear h0
      have e1 : ((j + 1 : Nat) : Int) - 1 = (j : Int) := by omega
      rw [e1]
      clear e1
      obtain ⟨x, hx⟩ : ∃ x, x = n / 256 ^ j % 256 := ⟨_, rfl⟩
      have e2 : (n : Int) / 2 ^ (8 * j) % 256 = (x : Int) := by
        have e3 : (256 : Nat) ^ j = 2 ^ (8 * j) := by rw [Nat.pow_mul]
        rw [hx, e3]
        simp
      have HT := Lib.hid (be_take k n (k - (j + 1)) (by omega))
      have ej : k - 1 - (k - (j + 1)) = j := by omega
      have ek : k - (j + 1) + 1 = k - j := by omega
      rw [ej, ek, ← hx] at HT
      clear hx ej ek
      have hlen := HX.out.bytes
      go_wp2_with (at_builtin; refine wpList_append_bytes rfl (.tmp 14) (.tmp 20) rfl base u0 _ rfl (World.ownsRow.alloc HX.out _) (.slice (some ⟨wr.heap.size, 0, none⟩) 1 1) [x] rfl (BytesAt.one wr x _) (by simp; omega) (by simp; omega) ?_; intro v' w4 hown hgrow)
      go_roundg j
      case measure => omega
      case rel =>
        refine ⟨by omega, by go_num, ?_, (HK.out.alloc (by omega) _).grown hgrow (by simp; omega) (fun z hz => (HX.out.from z hz).1)⟩
        rw [HT.out, ← List.append_assoc]; exact hown
end Go.Proofs.Ytodmpchnjakchaa
