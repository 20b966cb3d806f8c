/-
  crc: More and Sum, New, and the reference's More and Sum.
-/
import Derived.Test.YtodmpchnjakchaaCrcMore
import Derived.Test.YtodmpchnjakchaaMem
namespace Go.Proofs.Ytodmpchnjakchaa
open Go.RowKit

/-- A slice does not lie in block b. -/
def Avoids (v : Value) (b : Nat) : Prop := ∀ a n c, v = .slice (some a) n c → 0 < n → a.block ≠ b
theorem BytesAt.only {w w' : World} {b : Nat} {v : Value} {l : List Nat} (h : BytesAt w v l) (ho : Only b w w') (ha : Avoids v b) : BytesAt w' v l := by
  rcases h with h | ⟨bd, off, cap, rfl, hc⟩
  · exact .inl h
  · exact .inr ⟨bd, off, cap, rfl, fun i hi => (ho.cell (p := ⟨bd, off + i, none⟩) (ha ⟨bd, off, none⟩ _ _ rfl (by omega))).trans (hc i hi)⟩

theorem compl_walk (s : Nat) (h : s < 4294967296) : bits .xor .u32 IntKind.u32.max (s : Int) = ((4294967295 - s : Nat) : Int) := by
  have e : IntKind.u32.max = ((4294967295 : Nat) : Int) := rfl
  rw [e, u32_xor_nat _ _ (by omega) h, Crc.compl_xor h]
theorem step_odd (c : Nat) (h : c < 4294967296) (g : c % 2 = 1) : bits .xor .u32 ((c : Int) / 2) 2197175160 = ((Crc.step c : Nat) : Int) := by
  have e := u32_xor_nat (c / 2) 2197175160 (by omega) (by omega)
  unfold Crc.step
  rw [g, Nat.one_mul, ← e]
  rfl
theorem step_even (c : Nat) (g : ¬ c % 2 = 1) : ((c : Int) / 2) = ((Crc.step c : Nat) : Int) := by
  unfold Crc.step
  rw [show c % 2 = 0 by omega, Nat.zero_mul, Nat.xor_zero]
  rfl
theorem feed_take (c : Nat) (l : List Nat) (k : Nat) (h : k < l.length) : Crc.feed c (l.take (k + 1)) = Crc.stepN 8 (Crc.feed c (l.take k) ^^^ l.getD k 0) := by
  rw [List.take_succ_eq_append_getElem h, Crc.feed_snoc]
  simp [List.getD, h]
theorem getD_byte {l : List Nat} (hB : Crc.Bytes l) (k : Nat) : l.getD k 0 < 256 := by
  by_cases h : k < l.length
  · have := hB l[k] (List.getElem_mem h); simpa [List.getD, h] using this
  · simp [List.getD, h]
theorem take_bytes {l : List Nat} (hB : Crc.Bytes l) (k : Nat) : Crc.Bytes (l.take k) := fun b hb => hB b (List.mem_of_mem_take hb)

set_option maxRecDepth 100000 in
set_option maxHeartbeats 1600000 in
theorem more_any (b : Nat) (d : Bool) (s : Nat) (hs : s < 4294967296) (v : Value) (l : List Nat) (w : World) (h : Table w b d) (hd : BytesAt w v l) (hB : Crc.Bytes l) (hl : l.length ≤ 9223372036854775807) (ha : Avoids v b) :
    Calls Try.prog 34 #[.pointer (some ⟨b, 0, none⟩), .int .u32 (s : Nat), v] w fun e w' => e = .returned (.int .u32 (Crc.more s l : Nat)) ∧ Table w' b true ∧ Only b w w' ∧ (d = true → w = w') := by
  have hmf : ∀ (fn : Fn) (first cap : Array Value) (w : World), (Instr.makeFunc fn first cap).run Try.prog w = .ok (.func fn first cap) w := fun _ _ _ _ => rfl
  have Hx := Lib.hid (compl_walk s hs)
  rcases hd with ⟨rfl, ao, cap, rfl, _⟩ | ⟨bd, off, cap, rfl, hc⟩
  · have H := Lib.hid h; clear h
    go_enter Try.func34, Try.ntmps34
    go_wp2_with (go_at_call 36; refine (once_make b d _ H.out).mono ?_; rintro e w1 ⟨rfl, ht, ho, hsame⟩; have HS := Lib.hid hsame; clear hsame)
    rw [Hx.out]
    refine wp_loop_rounds 1 ?_; rw [rounds_succ]
    go_wp2
    go_ret
    exact ⟨congrArg (fun n => Ending.returned (.int .u32 n)) (compl_walk (4294967295 - s) (by omega)), ht, ho, HS.out⟩
  · have H := Lib.hid h; clear h
    have HC := Lib.hid hc; clear hc
    have HA := Lib.hid ha; clear ha
    go_enter Try.func34, Try.ntmps34
    go_wp2_with (go_at_call 36; refine (once_make b d _ H.out).mono ?_; rintro e w1 ⟨rfl, ht, ho, hsame⟩; have HS := Lib.hid hsame; clear hsame)
    rw [Hx.out]
    have HT := Lib.hid ht; clear ht
    have HO := Lib.hid ho; clear ho
    go_loop [7, 20] (fun c i => ∃ k : Nat, k ≤ l.length ∧ i = .int .i64 k ∧ c = .int .u32 (Crc.feed (4294967295 - s) (l.take k) : Nat)) (fun _ i => l.length - (intOf i).toNat)
    case atStart => exact ⟨0, by omega, rfl, rfl⟩
    case round =>
      obtain ⟨k, hk, rfl, rfl⟩ := hrel
      have hf := Crc.feed_lt (l.take k) (c := 4294967295 - s) (by omega) (take_bytes hB k)
      by_cases hlt : k < l.length
      · have hcell : w1.cell? ⟨bd, off + k, none⟩ = some (.int .u8 (l.getD k 0 : Nat)) := (HO.out.cell (p := ⟨bd, off + k, none⟩) (HA.out ⟨bd, off, none⟩ _ _ rfl (by omega))).trans (HC.out k hlt)
        have HF := Lib.hid (feed_take (4294967295 - s) l k hlt)
        have hbyte := getD_byte hB k
        generalize l.getD k 0 = x at *
        generalize Crc.feed (4294967295 - s) (l.take k) = c at *
        have hj := Crc.index_lt c x hbyte
        have HY := Lib.hid (Crc.table_way c x)
        have hix : bits .xor .u8 ((c : Int) % 256) (x : Int) = ((c % 256 ^^^ x : Nat) : Int) := by
          rw [← u8_xor_nat _ _ (by omega) hbyte]; rfl
        generalize c % 256 ^^^ x = j at *
        have hword := HT.out.words.2.1 j hj
        have hy := Crc.stepN_lt (c := j) 8 (by omega)
        generalize Crc.stepN 8 j = y at *
        have HZ := Lib.hid (u32_xor_nat (c / 256) y (by omega) hy)
        go_wp2
        go_round
        case rel => exact ⟨k + 1, by omega, by go_num, by rw [HF.out, HY.out, ← HZ.out]; rfl⟩
        case measure => simp [intOf]; omega
      · obtain rfl : k = l.length := by omega
        rw [List.take_length] at hf ⊢
        have HZ := Lib.hid (compl_walk _ hf)
        go_wp2
        go_ret
        exact ⟨congrArg (fun n => Ending.returned (.int .u32 n)) HZ.out, HT.out, HO.out, HS.out⟩

/-- crc.Table.Sum. -/
theorem sum_any (b : Nat) (d : Bool) (v : Value) (l : List Nat) (w : World) (h : Table w b d) (hd : BytesAt w v l) (hB : Crc.Bytes l) (hl : l.length ≤ 9223372036854775807) (ha : Avoids v b) :
    Calls Try.prog 30 #[.pointer (some ⟨b, 0, none⟩), v] w fun e w' => e = .returned (.int .u32 (Crc.more 0 l : Nat)) ∧ Table w' b true ∧ Only b w w' ∧ (d = true → w = w') := by
  have H := Lib.hid (more_any b d 0 (by omega) v l w h hd hB hl ha)
  clear h hd hB hl ha
  go_enter Try.func30, Try.ntmps30
  go_wp2_with (go_at_call 34; refine H.out.mono ?_; rintro e w1 ⟨rfl, ht, ho, hsame⟩; have HS := Lib.hid hsame; clear hsame)
  go_ret
  exact ⟨rfl, ht, ho, HS.out⟩

/-- A table's cells as they are laid. -/
def tableZero : Array Value := #[.int .u32 0, .int .i32 0, .int .u32 0] ++ Array.replicate 256 (.int .u32 0)
theorem zero_table (w : World) : (zeroValue 62).run Try.prog w = .ok (.agg tableZero) w := by kernel_rfl
theorem tableZero_size : tableZero.size = 259 := by simp [tableZero]

/-- crc.New: a table at the head of a new block, its words not made. -/
theorem new_any (w : World) : Calls Try.prog 8 #[] w fun e w' => e = .returned (.pointer (some ⟨w.heap.size, 0, none⟩)) ∧ Table w' w.heap.size false ∧ Below w.heap.size w w' ∧ w'.heap.size = w.heap.size + 1 := by
  have hb := zero_table
  go_enter Try.func8, Try.ntmps8
  go_wp2
  go_ret
  have e1 : ∀ j, (w.alloc (.cells tableZero 62)).cell? ⟨w.heap.size, j, none⟩ = tableZero[j]? := fun j => World.cell?_alloc_new w _ _ j
  have e2 : ∀ i, i < 256 → tableZero[3 + i]? = some (.int .u32 0) := fun i hi => by
    unfold tableZero
    rw [Array.getElem?_append_right (by simp)]
    simp [hi]
  refine ⟨rfl, ⟨?_, ?_, ⟨fun i hi => ⟨_, (e1 _).trans (e2 i hi)⟩, fun i hi => absurd hi (by simp), fun j => World.frozen?_alloc_new w _ _ j⟩⟩, (Below.refl _ _).alloc (Nat.le_refl _) _, by simp⟩
  · rw [e1]; simp [tableZero]
  · rw [e1]; simp [tableZero]

set_option maxRecDepth 100000 in
set_option maxHeartbeats 1600000 in
/-- The reference's More. -/
theorem refMore_any (s : Nat) (hs : s < 4294967296) (v : Value) (l : List Nat) (w : World) (hd : BytesAt w v l) (hB : Crc.Bytes l) (hl : l.length ≤ 9223372036854775807) :
    Calls Try.prog 35 #[.int .u32 (s : Nat), v] w fun e w' => e = .returned (.int .u32 (Crc.more s l : Nat)) ∧ w = w' := by
  have Hx := Lib.hid (compl_walk s hs)
  rcases hd with ⟨rfl, ao, cap, rfl, _⟩ | ⟨bd, off, cap, rfl, hc⟩
  · go_enter Try.func35, Try.ntmps35
    go_wp2
    rw [Hx.out]
    refine wp_loop_rounds 1 ?_; rw [rounds_succ]
    go_wp2
    go_ret
    exact ⟨congrArg (fun n => Ending.returned (.int .u32 n)) (compl_walk (4294967295 - s) (by omega)), rfl⟩
  · have HC := Lib.hid hc; clear hc
    go_enter Try.func35, Try.ntmps35
    go_wp2
    rw [Hx.out]
    go_loop [5, 6] (fun c i => ∃ k : Nat, k ≤ l.length ∧ i = .int .i64 k ∧ c = .int .u32 (Crc.feed (4294967295 - s) (l.take k) : Nat)) (fun _ i => l.length - (intOf i).toNat)
    case atStart => exact ⟨0, by omega, rfl, rfl⟩
    case round =>
      obtain ⟨k, hk, rfl, rfl⟩ := hrel
      have hf := Crc.feed_lt (l.take k) (c := 4294967295 - s) (by omega) (take_bytes hB k)
      by_cases hlt : k < l.length
      · have hcell := HC.out k hlt
        have HF := Lib.hid (feed_take (4294967295 - s) l k hlt)
        have hbyte := getD_byte hB k
        generalize l.getD k 0 = x at *
        generalize Crc.feed (4294967295 - s) (l.take k) = c at *
        have hxor := u32_xor_nat c x hf (by omega)
        have hlt2 := Crc.xor_lt hf (show x < 4294967296 by omega)
        generalize c ^^^ x = y at *
        go_wp2
        go_loop [5, 7] (fun c j => ∃ n : Nat, n ≤ 8 ∧ j = .int .i64 n ∧ c = .int .u32 (Crc.stepN n y : Nat)) (fun _ j => 8 - (intOf j).toNat)
        case atStart => exact ⟨0, by omega, rfl, rfl⟩
        case round =>
          obtain ⟨n, hn, rfl, rfl⟩ := hrel
          have hc : Crc.stepN n y < 4294967296 := Crc.stepN_lt n hlt2
          have HS : Hid (Crc.stepN (n + 1) y = Crc.step (Crc.stepN n y)) := rfl
          by_cases hlt8 : n < 8
          · generalize Crc.stepN n y = z at *
            by_cases hz : z % 2 = 1
            · have g : ((z : Int) % 2 == 1) = true := by rw [beq_iff_eq]; omega
              go_wp2
              go_round
              case rel => exact ⟨n + 1, by omega, by go_num, by rw [HS.out, ← step_odd z hc hz]⟩
              case measure => simp [intOf]; omega
            · have g : ((z : Int) % 2 == 1) = false := by rw [beq_eq_false_iff_ne]; omega
              go_wp2
              go_round
              case rel => exact ⟨n + 1, by omega, by go_num, by rw [HS.out, ← step_even z hz]⟩
              case measure => simp [intOf]; omega
          · obtain rfl : n = 8 := by omega
            go_wp2
            go_round
            case rel => exact ⟨k + 1, by omega, by go_num, by rw [HF.out]⟩
            case measure => simp [intOf]; omega
      · obtain rfl : k = l.length := by omega
        rw [List.take_length] at hf ⊢
        have HZ := Lib.hid (compl_walk _ hf)
        go_wp2
        go_ret
        exact ⟨congrArg (fun n => Ending.returned (.int .u32 n)) HZ.out, rfl⟩

/-- The reference's Sum. -/
theorem refSum_any (v : Value) (l : List Nat) (w : World) (hd : BytesAt w v l) (hB : Crc.Bytes l) (hl : l.length ≤ 9223372036854775807) :
    Calls Try.prog 32 #[v] w fun e w' => e = .returned (.int .u32 (Crc.more 0 l : Nat)) ∧ w = w' := by
  have H := Lib.hid (refMore_any 0 (by omega) v l w hd hB hl)
  clear hd hB hl
  go_enter Try.func32, Try.ntmps32
  go_wp2_with (go_at_call 35; refine H.out.mono ?_; rintro e w1 ⟨rfl, rfl⟩)
  go_ret
  exact ⟨rfl, rfl⟩
end Go.Proofs.Ytodmpchnjakchaa
