/-
  The model: the living whole of the laws.
-/
import Derived.Test.YtmanldcohbegkaaMdLaw
namespace Go.Proofs.Ytmanldcohbegkaa
open Go.RowKit

def kT1 : Tk := ⟨0, 0, 6, false, false, 0, 0, 0, 4, 2, []⟩
def kT2 : Tk := ⟨0, 0, 3, false, false, 1, 1, 1, 0, 0, List.replicate 64 7⟩
def kT3 : Tk := ⟨0, 0, 2, false, false, 1, 0, 2, 0, 0, []⟩
def kS1 : Mo := ⟨[⟨1, 4, 2, []⟩], 2⟩
def kS2 : Mo := ⟨[⟨1, 4, 2, [(1, List.replicate 64 7)]⟩], 2⟩
theorem kq1 : doS ⟨[], 1⟩ kT1 0 0 = (⟨0, 0, 0, 0, [0, 0, 0, 1]⟩, kS1) := by kernel_rfl
theorem kq2 : doS kS1 kT2 0 0 = (⟨0, 0, 0, 1, []⟩, kS2) := by kernel_rfl
theorem kq3 : doS kS2 kT3 0 0 = (⟨0, 0, 0, 0, zeros 64 ++ List.replicate 64 7⟩, kS2) := by kernel_rfl
theorem kG1 : Good kS1 := by have := Good.start.doS kT1 0 0; rw [kq1] at this; exact this
theorem kG2 : Good kS2 := by have := kG1.doS kT2 0 0; rw [kq2] at this; exact this

set_option maxRecDepth 100000 in
set_option maxHeartbeats 6400000 in
theorem known_any (w : World) : Calls Try.prog 12 #[] w fun e w' => e = .returned (.bool true) ∧ Below w.heap.size w w' := by
  go_enter Try.func12, Try.ntmps12
  go_wp2_with fail
  refine (new_at w).mono ?_
  rintro e w1 ⟨m, W1, rfl, hm1, hb1, hn1⟩
  have D1 := do_at m _ W1 kT1 (.slice none 0 0) 0 0 w1 hm1 Good.start (.inl ⟨rfl, none, 0, rfl, fun _ => rfl⟩) ⟨none, 0, rfl, Nat.le_refl _⟩ (by simp [kT1])
  rw [kq1] at D1
  simp only [replyCells, Tk.cells, kT1] at D1
  have D1 := Lib.hid D1
  have HM1 := Lib.hid hm1; clear hm1
  have HN1 := Lib.hid hn1; clear hn1
  have HB1 := Lib.hid hb1; clear hb1
  go_wp2_with fail
  refine D1.out.mono ?_
  rintro e w2 ⟨r1, W2, rfl, ho1, hm2, hk2, hn2⟩
  obtain ⟨a1, c1, rfl, _⟩ := ho1.bytes.form
  obtain ⟨w3, hw3⟩ : ∃ w3, w3 = w2.alloc (.cells #[.int .i64 0, .int .i64 0, .int .i64 0, .int .i64 0, .slice a1 4 c1] 35) := ⟨_, rfl⟩
  have hk23 : Keeps (fun _ => False) w2 w3 := by rw [hw3]; exact (Keeps.refl _ w2).alloc _
  have hA3 : CellsAt w3 w2.heap.size #[.int .i64 0, .int .i64 0, .int .i64 0, .int .i64 0, .slice a1 4 c1] 35 := by rw [hw3]; exact heap_at rfl
  have hm3 : ModelAt w3 m kS1 W2 := hm2.kept hk23
  have ho3 : Owns w1.heap.size w3 (.slice a1 4 c1) [0, 0, 0, 1] := hk23.owns ho1 (fun _ _ h => h)
  have hbw2 : Below w.heap.size w w2 := HB1.out.trans (hk2.below HB1.out.size (fun x hx h => by have := HN1.out x h; omega))
  have hbw3 : Below w.heap.size w w3 := hbw2.trans (hk23.below hbw2.size (fun _ _ h => h))
  have hW2 : ∀ k, W2 k → w.heap.size ≤ k ∧ k < w2.heap.size := fun k hk => ⟨(hn2 k hk).elim (HN1.out k) (fun h => Nat.le_trans HB1.out.size h), hm2.lt k hk⟩
  have HA3 := Lib.hid hA3; clear hA3
  have HM3 := Lib.hid hm3; clear hm3 hm2
  have HO3 := Lib.hid ho3; clear ho3 ho1
  have HW2 := Lib.hid hW2; clear hW2 hn2
  have HBW3 := Lib.hid hbw3; clear hbw3 hbw2
  have HK23 := Lib.hid hk23; clear hk23 hk2
  have HFL := Lib.hid (filled_any w3)
  go_wp2_with fail
  rw [← hw3]
  refine HFL.out.mono ?_
  rintro e w4 ⟨r4, rfl, ho4, hb4⟩
  obtain ⟨a4, c4, rfl, h4⟩ := ho4.bytes.form
  have hc4 : 64 ≤ c4 := by
    rcases ho4.2 with ⟨e, h0⟩ | ⟨g, cap, cur, e, _, _, hnc, _⟩
    · simp at h0
    · injection e with _ _ e3; rw [e3]; simpa using hnc
  have hm4 : ModelAt w4 m kS1 W2 := HM3.out.below hb4
  have D2 := do_at m _ W2 kT2 (.slice a4 64 c4) 0 0 w4 hm4 kG1 ho4.bytes ⟨a4, c4, rfl, hc4⟩ (by simp [kT2])
  rw [kq2] at D2
  simp only [replyCells, Tk.cells, kT2] at D2
  have D2 := Lib.hid D2
  have hA4 := HA3.out.later (hb4.mono (Nat.le_refl _))
  have ho34 := (Keeps.of_below (F := fun _ => False) hb4).owns HO3.out (fun _ _ h => h)
  have hbw4 := HBW3.out.trans (hb4.mono HBW3.out.size)
  have hz2 : w2.heap.size < w4.heap.size := hA4.lt
  have HA4 := Lib.hid hA4; clear hA4
  have HO34 := Lib.hid ho34; clear ho34
  have HBW4 := Lib.hid hbw4; clear hbw4
  have HM4 := Lib.hid hm4; clear hm4 ho4 hb4 hw3
  go_wp2_with fail
  refine D2.out.mono ?_
  rintro e w5 ⟨r5, W5, rfl, ho5, hm5, hk5, hn5⟩
  obtain ⟨a5, c5, rfl, _⟩ := ho5.bytes.form
  obtain ⟨w6, hw6⟩ : ∃ w6, w6 = w5.alloc (.cells #[.int .i64 0, .int .i64 0, .int .i64 0, .int .i64 1, .slice a5 0 c5] 35) := ⟨_, rfl⟩
  have hk56 : Keeps (fun _ => False) w5 w6 := by rw [hw6]; exact (Keeps.refl _ w5).alloc _
  have hB6 : CellsAt w6 w5.heap.size #[.int .i64 0, .int .i64 0, .int .i64 0, .int .i64 1, .slice a5 0 c5] 35 := by rw [hw6]; exact heap_at rfl
  have hA6 : CellsAt w6 w2.heap.size _ 35 := (HA4.out.keeps hk5 (fun h => by have := (HW2.out _ h).2; omega)).keeps hk56 (fun h => h)
  have ho6 := hk56.owns (Owns.beside HM4.out hk5 (l := [0, 0, 0, 1]) HO34.out) (fun _ _ h => h)
  have hm6 : ModelAt w6 m kS2 W5 := hm5.kept hk56
  have hbw5 : Below w.heap.size w w5 := HBW4.out.trans (hk5.below HBW4.out.size (fun x hx h => by have := (HW2.out x h).1; omega))
  have hbw6 : Below w.heap.size w w6 := hbw5.trans (hk56.below hbw5.size (fun _ _ h => h))
  have hW5 : ∀ k, W5 k → w.heap.size ≤ k ∧ k < w5.heap.size ∧ k ≠ w2.heap.size := fun k hk => ⟨(hn5 k hk).elim (fun h => (HW2.out k h).1) (fun h => Nat.le_trans HBW4.out.size h), hm5.lt k hk, (hn5 k hk).elim (fun h => by have := (HW2.out k h).2; omega) (fun h => by omega)⟩
  have D3 := do_at m _ W5 kT3 (.slice none 0 0) 0 0 w6 hm6 kG2 (.inl ⟨rfl, none, 0, rfl, fun _ => rfl⟩) ⟨none, 0, rfl, Nat.le_refl _⟩ (by simp [kT3])
  rw [kq3] at D3
  simp only [replyCells, Tk.cells, kT3] at D3
  have D3 := Lib.hid D3
  have HA6 := Lib.hid hA6; clear hA6
  have HB6 := Lib.hid hB6; clear hB6
  have HO6 := Lib.hid ho6; clear ho6 ho5
  have HM6 := Lib.hid hm6; clear hm6 hm5
  have HBW6 := Lib.hid hbw6; clear hbw6 hbw5
  have HW5 := Lib.hid hW5; clear hW5 hn5
  have hz6 : w2.heap.size < w6.heap.size ∧ w5.heap.size < w6.heap.size := ⟨HA6.out.lt, HB6.out.lt⟩
  clear hk5 hk56
  go_wp2_with fail
  rw [← hw6]
  refine D3.out.mono ?_
  rintro e w7 ⟨r7, W7, rfl, ho7, hm7, hk7, hn7⟩
  obtain ⟨a7, c7, hr7, _⟩ := ho7.bytes.form
  subst hr7
  obtain ⟨n7, hn7'⟩ : ∃ n7, n7 = (zeros 64 ++ List.replicate 64 7).length := ⟨_, rfl⟩
  obtain rfl : n7 = 128 := hn7'.trans (by kernel_rfl)
  rw [← hn7'] at ho7 ⊢
  obtain ⟨w8, hw8⟩ : ∃ w8, w8 = w7.alloc (.cells #[.int .i64 0, .int .i64 0, .int .i64 0, .int .i64 0, .slice a7 128 c7] 35) := ⟨_, rfl⟩
  have hk78 : Keeps (fun _ => False) w7 w8 := by rw [hw8]; exact (Keeps.refl _ w7).alloc _
  have hC8 : CellsAt w8 w7.heap.size #[.int .i64 0, .int .i64 0, .int .i64 0, .int .i64 0, .slice a7 128 c7] 35 := by rw [hw8]; exact heap_at rfl
  have hA8 : CellsAt w8 w2.heap.size _ 35 := (HA6.out.keeps hk7 (fun h => (HW5.out _ h).2.2 rfl)).keeps hk78 (fun h => h)
  have hB8 : CellsAt w8 w5.heap.size _ 35 := (HB6.out.keeps hk7 (fun h => by have := (HW5.out _ h).2.1; omega)).keeps hk78 (fun h => h)
  have ho38 := hk78.owns (Owns.beside HM6.out hk7 (l := [0, 0, 0, 1]) HO6.out) (fun _ _ h => h)
  have ho78 := hk78.owns ho7 (fun _ _ h => h)
  have hm8 : ModelAt w8 m kS2 W7 := hm7.kept hk78
  have hbw7 : Below w.heap.size w w7 := HBW6.out.trans (hk7.below HBW6.out.size (fun x hx h => by have := (HW5.out x h).1; omega))
  have hbw8 : Below w.heap.size w w8 := hbw7.trans (hk78.below hbw7.size (fun _ _ h => h))
  have HV := Lib.hid (volumes_at m kS2 W7 w8 hm8 kG2)
  have HBW8 := Lib.hid hbw8; clear hbw8 hbw7 hk7 hk78 hn7 hm7 hm8
  have x4 := hA8.cell 4
  have y2 := hB8.cell 2
  have y3 := hB8.cell 3
  have z4 := hC8.cell 4
  simp only [List.getElem?_toArray, List.getElem?_cons_zero, List.getElem?_cons_succ] at x4 y2 y3 z4
  obtain ⟨g1, hg1⟩ : ∃ g, a1 = some ⟨g, 0, none⟩ := by
    rcases ho38.2 with ⟨e, h0⟩ | ⟨g, cap, cur, e, _⟩
    · simp at h0
    · injection e with e1; exact ⟨g, e1⟩
  obtain ⟨g7, hg7⟩ : ∃ g, a7 = some ⟨g, 0, none⟩ := by
    rcases ho78.2 with ⟨e, h0⟩ | ⟨g, cap, cur, e, _⟩
    · simp [zeros] at h0
    · injection e with e1; exact ⟨g, e1⟩
  subst hg1 hg7
  have d3 : w8.cell? ⟨g1, 3, none⟩ = some (.int .u8 1) := Owns.cellNo ho38 3 (by simp)
  have e0 : w8.cell? ⟨g7, 0, none⟩ = some (.int .u8 0) := (Owns.cellNo ho78 0 (by simp [zeros])).trans (by kernel_rfl)
  have e64 : w8.cell? ⟨g7, 64, none⟩ = some (.int .u8 7) := (Owns.cellNo ho78 64 (by simp [zeros])).trans (by kernel_rfl)
  clear ho38 ho78 hA8 hB8 hC8 ho7
  have hz64 : (zeros 64).length = 64 := by kernel_rfl
  go_upto_region 7 with fail
  rw [← hw8]
  clear hw8
  go_wp2_with fail
  refine HV.out.mono ?_
  rintro e w9 ⟨r9, rfl, hr9, hk9⟩
  obtain ⟨a9, c9, rfl⟩ : ∃ a c, r9 = .slice a 1 c := by
    rcases hr9.2 with ⟨_, h0⟩ | ⟨g, cap, cur, e, _⟩
    · cases h0
    · exact ⟨_, _, e⟩
  have HK9 := Lib.hid hk9; clear hk9 hr9
  go_wp2_with fail
  go_ret
  exact ⟨rfl, HBW8.out.trans (HK9.out.below HBW8.out.size (fun _ _ h => h))⟩
end Go.Proofs.Ytmanldcohbegkaa
