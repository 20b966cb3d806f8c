/-
  PDUs: the plain law of a header's buffer, filled field by field.
-/
import Derived.Test.YtodmpchnjakchaaPduRoom
namespace Go.Proofs.Ytodmpchnjakchaa
open Go.RowKit
namespace Pdu
/-- A row whose bytes from a on are being replaced, from the last one on, down to number j. -/
def part (L : List Nat) (a : Nat) (bs : List Nat) (j : Nat) : List Nat := L.take (a + j) ++ bs.drop j ++ L.drop (a + bs.length)
theorem part_all (L : List Nat) (a : Nat) (bs : List Nat) : part L a bs bs.length = L := by
  unfold part
  rw [List.drop_length, List.append_nil, List.take_append_drop]
theorem part_length (L : List Nat) (a : Nat) (bs : List Nat) (j : Nat) (h : a + bs.length ≤ L.length) (hj : j ≤ bs.length) : (part L a bs j).length = L.length := by
  simp [part]; omega
theorem part_set (L : List Nat) (a : Nat) (bs : List Nat) (j x : Nat) (h : a + bs.length ≤ L.length) (hj : bs[j]? = some x) : (part L a bs (j + 1)).set (a + j) x = part L a bs j := by
  obtain ⟨hlt, rfl⟩ := List.getElem?_eq_some_iff.1 hj
  unfold part
  have hl : a + j < L.length := by omega
  have e1 : L.take (a + (j + 1)) = L.take (a + j) ++ [L[a + j]] := by rw [← Nat.add_assoc, List.take_succ_eq_append_getElem hl]
  have e2 : bs.drop j = bs[j] :: bs.drop (j + 1) := List.drop_eq_getElem_cons hlt
  have e3 : (L.take (a + j)).length = a + j := by rw [List.length_take]; omega
  rw [e1, e2, List.append_assoc, List.append_assoc, List.set_append_right _ _ (by omega), e3, Nat.sub_self]
  simp
  rw [e2, List.cons_append]
def val (p : PD) (i : Nat) : Int := [p.flags, p.info, p.wide, p.short, p.tag, p.word, p.num, p.exp].getD i 0
def fat (i : Nat) : Nat := (fieldList.getD i (0, 0, 0)).1
def fsz (i : Nat) : Nat := (fieldList.getD i (0, 0, 0)).2.1
def foff (i : Nat) : Nat := (fieldList.getD i (0, 0, 0)).2.2
def bufs (p : PD) : Nat → List Nat
  | 0 => first p :: zeros 47
  | i + 1 => part (bufs p i) (fat i) (be (fsz i) (val p i).toNat) 0
theorem field_small (i : Nat) (h : i < 8) : fat i + fsz i ≤ 48 ∧ 1 ≤ fsz i ∧ fsz i ≤ 6 ∧ 2 ≤ foff i ∧ foff i ≤ 9 ∧ fat i ≤ 28 := by
  have : i = 0 ∨ i = 1 ∨ i = 2 ∨ i = 3 ∨ i = 4 ∨ i = 5 ∨ i = 6 ∨ i = 7 := by omega
  rcases this with rfl | rfl | rfl | rfl | rfl | rfl | rfl | rfl <;> decide
theorem bufs_length (p : PD) : ∀ i, i ≤ 8 → (bufs p i).length = 48 := by
  intro i
  induction i with
  | zero => intro _; rfl
  | succ i ih =>
    intro h
    have hf := field_small i (by omega)
    show (part _ _ _ 0).length = 48
    rw [part_length _ _ _ _ (by rw [ih (by omega), be_length]; exact hf.1) (Nat.zero_le _)]
    exact ih (by omega)
theorem buf_core (x l0 l1 l2 : Nat) (b1 b2 b3 b4 b5 b6 b7 b8 : List Nat) (h1 : b1.length = 1) (h2 : b2.length = 2) (h3 : b3.length = 6) (h4 : b4.length = 2) (h5 : b5.length = 4) (h6 : b6.length = 4) (h7 : b7.length = 4) (h8 : b8.length = 4) :
    (((((part (part (part (part (part (part (part (part (x :: zeros 47) 1 b1 0) 2 b2 0) 8 b3 0) 14 b4 0) 16 b5 0) 20 b6 0) 24 b7 0) 28 b8 0).set 5 l0).set 6 l1).set 7 l2)).take 32 = [x] ++ b1 ++ b2 ++ [0] ++ [l0, l1, l2] ++ b3 ++ b4 ++ b5 ++ b6 ++ b7 ++ b8 := by
  match b1, h1 with
  | [v0_0], _ =>
    match b2, h2 with
    | [v1_0, v1_1], _ =>
      match b3, h3 with
      | [v2_0, v2_1, v2_2, v2_3, v2_4, v2_5], _ =>
        match b4, h4 with
        | [v3_0, v3_1], _ =>
          match b5, h5 with
          | [v4_0, v4_1, v4_2, v4_3], _ =>
            match b6, h6 with
            | [v5_0, v5_1, v5_2, v5_3], _ =>
              match b7, h7 with
              | [v6_0, v6_1, v6_2, v6_3], _ =>
                match b8, h8 with
                | [v7_0, v7_1, v7_2, v7_3], _ =>
                  simp [part, zeros, List.replicate]
theorem bufs_hdr (p : PD) (hf : first p < 256) : ((((bufs p 8).set 5 (p.data.length / 256 ^ 2 % 256)).set 6 (p.data.length / 256 ^ 1 % 256)).set 7 (p.data.length / 256 ^ 0 % 256)).take 32 ++ p.tail = hdr p := by
  have h := buf_core (first p) (p.data.length / 256 ^ 2 % 256) (p.data.length / 256 ^ 1 % 256) (p.data.length / 256 ^ 0 % 256) (be 1 p.flags.toNat) (be 2 p.info.toNat) (be 6 p.wide.toNat) (be 2 p.short.toNat) (be 4 p.tag.toNat) (be 4 p.word.toNat) (be 4 p.num.toNat) (be 4 p.exp.toNat)
    (be_length _ _) (be_length _ _) (be_length _ _) (be_length _ _) (be_length _ _) (be_length _ _) (be_length _ _) (be_length _ _)
  have e0 : be 1 (first p) = [first p] := by show [first p / 256 ^ 0 % 256] = _; rw [Nat.pow_zero, Nat.div_one, Nat.mod_eq_of_lt hf]
  have e1 : be 1 0 = [0] := rfl
  have e2 : be 3 p.data.length = [p.data.length / 256 ^ 2 % 256, p.data.length / 256 ^ 1 % 256, p.data.length / 256 ^ 0 % 256] := rfl
  unfold hdr
  rw [e0, e1, e2, ← h]
  rfl
theorem may_fields (p : PD) (h0 : 0 ≤ p.op ∧ p.op ≤ 63 ∧ p.data.length ≤ 1024) : may p = true ↔ ∀ i, i < 8 → fits (val p i) (fsz i) = true := by
  constructor
  · intro h i hi
    simp only [may, Bool.and_eq_true, decide_eq_true_eq] at h
    obtain ⟨⟨⟨⟨⟨⟨⟨⟨⟨⟨m1, m2⟩, m3⟩, m4⟩, m5⟩, m6⟩, m7⟩, m8⟩, m9⟩, m10⟩, m11⟩ := h
    have : i = 0 ∨ i = 1 ∨ i = 2 ∨ i = 3 ∨ i = 4 ∨ i = 5 ∨ i = 6 ∨ i = 7 := by omega
    rcases this with rfl | rfl | rfl | rfl | rfl | rfl | rfl | rfl
    · exact m7
    · exact m8
    · exact m9
    · exact m10
    · exact m1
    · exact m2
    · exact m3
    · exact m4
  · intro h
    simp only [may, Bool.and_eq_true, decide_eq_true_eq]
    exact ⟨⟨⟨⟨⟨⟨⟨⟨⟨⟨h 4 (by omega), h 5 (by omega)⟩, h 6 (by omega)⟩, h 7 (by omega)⟩, h0.1⟩, h0.2.1⟩, h 0 (by omega)⟩, h 1 (by omega)⟩, h 2 (by omega)⟩, h 3 (by omega)⟩, h0.2.2⟩
end Pdu
theorem cells_val (p : Pdu.PD) (dv : Value) (i : Nat) (h : i < 8) : (p.cells dv)[Pdu.foff i]? = some (.int .i64 (Pdu.val p i)) := by
  have : i = 0 ∨ i = 1 ∨ i = 2 ∨ i = 3 ∨ i = 4 ∨ i = 5 ∨ i = 6 ∨ i = 7 := by omega
  rcases this with rfl | rfl | rfl | rfl | rfl | rfl | rfl | rfl <;> rfl
theorem val_range (p : Pdu.PD) (hp : p.Ok) (i : Nat) (h : i < 8) : i64s (Pdu.val p i) := by
  have : i = 0 ∨ i = 1 ∨ i = 2 ∨ i = 3 ∨ i = 4 ∨ i = 5 ∨ i = 6 ∨ i = 7 := by omega
  rcases this with rfl | rfl | rfl | rfl | rfl | rfl | rfl | rfl
  · exact hp.flags
  · exact hp.info
  · exact hp.wide
  · exact hp.short
  · exact hp.tag
  · exact hp.word
  · exact hp.num
  · exact hp.exp
theorem Owns.cellNo {base : Nat} {w : World} {g n cap : Nat} {l : List Nat} (h : Owns base w (.slice (some ⟨g, 0, none⟩) n cap) l) (j : Nat) (hj : j < l.length) : w.cell? ⟨g, j, none⟩ = some (.int .u8 (l.getD j 0 : Nat)) := by
  have hn := h.bytes.length
  subst hn
  exact (World.ownsRow.cellAt h j (by omega)).trans (byteCells_get l j hj)
theorem Owns.freeNo {base : Nat} {w : World} {g n cap : Nat} {l : List Nat} (h : Owns base w (.slice (some ⟨g, 0, none⟩) n cap) l) (j : Nat) : w.frozen? ⟨g, j, none⟩ = false := by
  have hn := h.bytes.length
  subst hn
  exact World.ownsRow.frozenAt h j
theorem Owns.set {base : Nat} {w : World} {g n cap : Nat} {l : List Nat} (h : Owns base w (.slice (some ⟨g, 0, none⟩) n cap) l) (j y : Nat) : Owns base (w.setCell ⟨g, j, none⟩ (.int .u8 (y : Int))) (.slice (some ⟨g, 0, none⟩) n cap) (l.set j y) := by
  have hn := h.bytes.length
  subst hn
  have := World.ownsRow.stored h j (.int .u8 (y : Int))
  unfold Owns
  rw [List.length_set]
  have e : byteCells (l.set j y) = (byteCells l).set j (.int .u8 (y : Int)) := by simp [byteCells]
  rw [e]
  exact this.1
/-- make([]byte, 48, 1084). -/
theorem make1084 (w : World) : ∃ w', (Instr.makeSlice 23 (.int .i64 48) (.int .i64 1084)).run Try.prog w = .ok (.slice (some ⟨w.heap.size, 0, none⟩) 48 1084) w' ∧ Owns w.heap.size w' (.slice (some ⟨w.heap.size, 0, none⟩) 48 1084) (Pdu.zeros 48) ∧ Below w.heap.size w w' ∧ w'.heap.size = w.heap.size + 1 := by
  obtain ⟨i0, hi, hz0, hz1, hz2⟩ := info_parts Try.info_byte
  have hr := run_make (P := Try.prog) w 23 5 i0 (.int .u8 0) Try.underlying23 hi hz0 .i64 .i64 48 1084 (by omega) (by omega) (by rw [hz2]; omega) (by omega)
  refine ⟨_, hr, ⟨by rw [byteCells_length, Nat.mul_one], .inr ⟨w.heap.size, 1084, _, rfl, Nat.le_refl _, heap_alloc_new w _, by simp [Pdu.zeros], by unfold maxLen; omega, by rw [size_madeCells, hz1]; rfl, ?_⟩⟩, allocBelow w _, by simp⟩
  have e : (Value.int IntKind.u8 0).cells = #[Value.int IntKind.u8 0] := rfl
  rw [hz1, e, toList_madeCells_one]
  rw [List.take_replicate]
  unfold byteCells Pdu.zeros
  rw [List.map_replicate, List.length_replicate]
  rfl
end Go.Proofs.Ytodmpchnjakchaa
