/-
  PDUs: the program's fields, summed.
-/
import Derived.Test.YtodmpchnjakchaaPduRefB
import Derived.Deep.RegionHeld3
namespace Go.Proofs.Ytodmpchnjakchaa
open Go.RowKit

/-- A field: where its bytes stand in a header, how many, where its number lies. -/
def fieldList : List (Nat × Nat × Nat) := [(1, 1, 2), (2, 2, 3), (8, 6, 4), (14, 2, 5), (16, 4, 6), (20, 4, 7), (24, 4, 8), (28, 4, 9)]
def fieldCells (pb : Nat) : List Value := fieldList.flatMap fun f => [.int .i64 (f.1 : Int), .int .i64 (f.2.1 : Int), .pointer (some ⟨pb, f.2.2, none⟩)]
theorem fieldCells_get (pb i : Nat) (h : i < 8) : (fieldCells pb)[i * 3]? = some (.int .i64 ((fieldList.getD i (0, 0, 0)).1 : Int)) ∧ (fieldCells pb)[i * 3 + 1]? = some (.int .i64 ((fieldList.getD i (0, 0, 0)).2.1 : Int)) ∧
    (fieldCells pb)[i * 3 + 2]? = some (.pointer (some ⟨pb, (fieldList.getD i (0, 0, 0)).2.2, none⟩)) := by
  have : i = 0 ∨ i = 1 ∨ i = 2 ∨ i = 3 ∨ i = 4 ∨ i = 5 ∨ i = 6 ∨ i = 7 := by omega
  rcases this with rfl | rfl | rfl | rfl | rfl | rfl | rfl | rfl <;> exact ⟨rfl, rfl, rfl⟩

set_option maxRecDepth 100000 in
set_option maxHeartbeats 3200000 in
theorem fields_any (pb : Nat) (w : World) :
    Calls Try.prog 18 #[.pointer (some ⟨pb, 0, none⟩)] w fun e w' => e = .returned (.slice (some ⟨w.heap.size, 0, none⟩) 8 8) ∧ (∀ j, w'.cell? ⟨w.heap.size, j, none⟩ = (fieldCells pb)[j]?) ∧ Below w.heap.size w w' ∧ w'.heap.size = w.heap.size + 1 := by
  go_enter Try.func18, Try.ntmps18
  go_wp2_with fail
  go_region_held3 (fun _ => True) (trivial) (fail)
  go_wp2_with fail
  go_ret
  have hb : Below w.heap.size w (w.alloc (.cells (fieldCells pb).toArray 67)).drew := (allocBelow w _).drew
  refine ⟨rfl, fun j => ?_, hb, by simp⟩
  show (w.alloc (.cells (fieldCells pb).toArray 67)).cell? _ = _
  rw [World.cell?_alloc_new, List.getElem?_toArray]

/-- The four bytes of a sum, made anew. -/
theorem sum_cells (w : World) (s : Nat) (hs : s < 4294967296) (T : TypeId) : BytesAt (w.alloc (.cells #[.int .u8 ((s : Int) % 256), .int .u8 ((s : Int) / 256 % 256), .int .u8 ((s : Int) / 65536 % 256), .int .u8 ((s : Int) / 16777216)] T)) (.slice (some ⟨w.heap.size, 0, none⟩) 4 4) (Pdu.le4 s) :=
  .inr ⟨w.heap.size, 0, 4, rfl, fun i hi => by
    rw [Nat.zero_add, World.cell?_alloc_new]
    have hi' : i < 4 := hi
    have e3 : (s : Int) / 16777216 = ((s / 16777216 % 256 : Nat) : Int) := by omega
    rw [e3]
    have : i = 0 ∨ i = 1 ∨ i = 2 ∨ i = 3 := by omega
    rcases this with rfl | rfl | rfl | rfl <;> rfl⟩

theorem Only.keeps {b : Nat} {w w' : World} (h : Only b w w') : Keeps (· = b) w w' := ⟨h.os, h.tape, h.output, Nat.le_of_eq h.size.symm, fun k _ hk => h.block k hk⟩

theorem Table.keeps {F : Nat → Prop} {w w' : World} {b : Nat} {d : Bool} (h : Table w b d) (hk : Keeps F w w') (hF : ¬ F b) : Table w' b d := by
  have hb := block_lt h.once
  simp only at hb
  have e : ∀ j, w'.cell? ⟨b, j, none⟩ = w.cell? ⟨b, j, none⟩ := fun j => hk.cell (p := ⟨b, j, none⟩) hb hF
  have f : ∀ j, w'.frozen? ⟨b, j, none⟩ = w.frozen? ⟨b, j, none⟩ := fun j => hk.frozen (p := ⟨b, j, none⟩) hb hF
  exact ⟨(e 0).trans h.once, (e 1).trans h.state, fun i hi => by rw [e]; exact h.words.1 i hi, fun i hi => by rw [e]; exact h.words.2.1 i hi, fun j => by rw [f]; exact h.words.2.2 j⟩
set_option maxRecDepth 100000 in
set_option maxHeartbeats 3200000 in
/-- summed, of nothing ahead. -/
theorem summed_nil (tb : Nat) (d : Bool) (vf : Value) (lf : List Nat) (w : World) (ht : Table w tb d) (hf : BytesAt w vf lf) (hB : Crc.Bytes lf) (hlf : lf.length ≤ 1000000) (ha : LiesIn vf (· ≠ tb)) :
    Calls Try.prog 19 #[.pointer (some ⟨tb, 0, none⟩), .slice none 0 0, vf] w fun e w' => ∃ v', e = .returned v' ∧ Owns w.heap.size w' v' (Pdu.sumS lf) ∧ Table w' tb true ∧ Keeps (· = tb) w w' := by
  have htb := block_lt ht.once
  simp only at htb
  have HS := Lib.hid (sum_any tb d vf lf w ht hf hB (by omega) ha)
  clear ht hf ha
  go_enter Try.func19, Try.ntmps19
  go_wp2_with fail
  refine HS.out.mono ?_
  rintro e w1 ⟨rfl, ht, ho, _⟩
  have HT := Lib.hid ht
  have HK := Lib.hid ho.keeps
  have HSZ := Lib.hid ho.size
  have hs := Crc.more_lt 0 lf
  have HE := Lib.hid (show Pdu.sumS lf = Pdu.le4 (Crc.more 0 lf) from rfl)
  clear ht ho HS
  generalize Crc.more 0 lf = s at *
  go_wp2_with (at_builtin; refine wpList_append_bytes rfl (.tmp 11) (.tmp 23) rfl w.heap.size (.slice none 0 0) [] rfl (Owns.nil _ _) (.slice (some ⟨w1.heap.size, 0, none⟩) 4 4) (Pdu.le4 s) rfl (sum_cells w1 s hs _) (by simp [Pdu.le4_length]) (by have := HSZ.out; simp; omega) ?_; intro v' w4 hown hgrow; rw [List.nil_append] at hown)
  go_ret
  have hb : Below w1.heap.size w1 w4 := (allocBelow w1 _).grown hgrow (by simp) (fun k hk => by simp [Value.ownBlock] at hk)
  refine ⟨_, rfl, by rw [HE.out]; exact hown, ?_, HK.out.trans (Keeps.of_below (F := (· = tb)) hb) (fun _ _ h => h)⟩
  exact HT.out.keeps (Keeps.of_below (F := fun _ => False) hb) (fun h => h)
end Go.Proofs.Ytodmpchnjakchaa
